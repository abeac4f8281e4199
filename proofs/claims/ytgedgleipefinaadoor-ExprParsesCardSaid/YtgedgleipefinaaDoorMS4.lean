/- Texts SENext, SENum, SEPlain, SEPp, SEOpd, SEPpAll, SEParse, SEToks, SERd0, SERd, SERd2: an evaluator of the model's code, proved sound, and what the program's functions do, for all inputs. -/
import Derived.Test.YtgedgleipefinaaDoorMS3
import Derived.Lib.AtoiAllCases
set_option linter.unusedVariables false
set_option linter.unusedSimpArgs false
set_option linter.unusedSectionVars false
namespace Go.AK
open Go Go.RowKit Go.Proofs
set_option linter.unusedVariables false
set_option maxRecDepth 100000
/-- The parser stands at these tokens. -/
def St (s : Str) (L : List Tok) : Prop := ∃ p, p ≤ s.length ∧ (s.drop p).head? ≠ some 32 ∧ L = lexS (s.drop p) p ∧ (hdT L).1 ≠ [63]
/-- What 'next' comes to. -/
def NextR (s : Str) (L : List Tok) (o : Int) (R : ARes) (H : Heap) : Prop :=
  ((hdT L).1 = [63] ∧ R = .pan (wrAV (hdT L).2 11) ∧ ∃ cs, H = [.c cs]) ∨ ((hdT L).1 ≠ [63] ∧ R = .ret (.tup []) ∧ H = [.c (pcl s (hdT L).2 (hdT L).1 o)] ∧ St s L)
theorem opFold_pos (r : Str) : ∀ (l : List Str) (n : Nat), n ≠ 0 → l.foldl (opStep r) n = n
  | [], n, _ => rfl
  | t :: l, n, h => by
    rw [List.foldl_cons, show opStep r n t = n from by unfold opStep; rw [if_neg (fun e => h e.1)], opFold_pos r l n h]
theorem run_one (r : Str) (h : 0 < runB 97 122 r) : runB 48 57 r = 0 := by
  cases r with
  | nil => rfl
  | cons c r =>
    unfold runB at h ⊢
    split at h
    · rename_i h2; rw [if_neg (by omega)]
    · omega
theorem tokLen_fold (r : Str) (n : Nat) (h : (n : Int) = if ((runB 48 57 r : Nat) : Int) > ((runB 97 122 r : Nat) : Int) then ((runB 48 57 r : Nat) : Int) else ((runB 97 122 r : Nat) : Int)) : opsP.foldl (opStep r) n = tokLen r := by
  have h1 := run_one r
  unfold tokLen
  by_cases a : 0 < runB 97 122 r
  · have := h1 a
    rw [if_pos a, opFold_pos]
    · rw [if_neg (by omega)] at h; omega
    · rw [if_neg (by omega)] at h; omega
  · rw [if_neg a]
    by_cases b : 0 < runB 48 57 r
    · rw [if_pos b, opFold_pos]
      · rw [if_pos (by omega)] at h; omega
      · rw [if_pos (by omega)] at h; omega
    · rw [if_neg b]
      have : n = 0 := by split at h <;> omega
      subst this; rfl
theorem opFold_le (r : Str) (n : Nat) (h : n ≤ r.length) : ∀ (l : List Str), l.foldl (opStep r) n ≤ r.length := by
  intro l
  induction l generalizing n with
  | nil => exact h
  | cons t l ih =>
    refine ih _ ?_
    unfold opStep
    split
    · rename_i h2; exact prefix_len h2.2
    · exact h
theorem opsP_len (k : Nat) (h : k < opsP.length) : (opsP[k]).length ≤ 2 ∧ 0 < (opsP[k]).length := by
  have : ∀ t ∈ opsP, t.length ≤ 2 ∧ 0 < t.length := by decide
  exact this _ (List.getElem_mem h)
theorem next_spec (s tk : Str) (a : Nat) (o : Int) (h : a + tk.length ≤ s.length) (hs : s.length ≤ 100000) :
    ACall Tryd.prog 25 [pAV] [.c (pcl s a tk o)] (NextR s (lexS (s.drop (a + tk.length)) (a + tk.length)) o) := by
  refine ACall.gh ?_
  refine ACall.enter tok false Tryd.func25 rfl rfl rfl (AW_sound (ip := false) tok _ _ _ _ ?_)
  have hb0 : IntKind.i64.wrap ((a : Int) + ((sb tk).size : Nat)) = ((a + tk.length : Nat) : Int) := by rw [IntKind.wrap_i64, sb_size]; omega
  generalize hp : a + tk.length = p at *
  have hb1 : IntKind.i64.wrap ((p : Int) + (runB 32 32 (s.drop p) : Nat)) = ((p + runB 32 32 (s.drop p) : Nat) : Int) := by
    have := runB_le 32 32 (s.drop p); rw [List.length_drop] at this; rw [IntKind.wrap_i64]; omega
  have hq : p + runB 32 32 (s.drop p) ≤ s.length := by have := runB_le 32 32 (s.drop p); rw [List.length_drop] at this; omega
  conv => whnf
  refine ADraw.of tok mixed false [0, 1, 2, 3, 4, 5, 6, 7, 8, 9, 10, 11] [12] (by kernel_rfl) (fun _ _ _ _ h => h) ?_
  conv => whnf
  refine ⟨Nat.le_of_ble_eq_true rfl, ?_⟩
  refine ADraw.gh (Gh.regs [0] (Gh.of ?_))
  refine ADraw.to (r' := [(0, pAV)]) (H' := [.c (pcl s p tk o)]) rfl (by show [Blk.c [_, .i .i64 (IntKind.i64.wrap _), _, _]] = _; rw [hb0]; rfl) ?_
  generalize hqe : p + runB 32 32 (s.drop p) = q at *
  refine ADraw.post (Q' := fun x r H => x = .normal ∧ H = [.c (pcl s q tk o)] ∧ keepR [0] r = [(0, pAV)]) ?_ ?_ (fun x r H hn h => absurd h.1 hn)
  · refine ADraw.tree tok mixed false [] [0, 1, 2, 4, 5, 6, 7] (.node (.cons 3 (.node (.cons 8 (.node (.cons 9 (.node (.cons 10 (.node (.cons 11 (.node (.cons 12 (.node (.cons 13 (.node .nil) .nil)) .nil)) .nil)) .nil)) .nil)) .nil)) (.cons 8 (.node (.cons 3 (.node (.cons 9 (.node (.cons 10 (.node (.cons 11 (.node (.cons 12 (.node (.cons 13 (.node .nil) .nil)) .nil)) .nil)) .nil)) .nil)) (.cons 9 (.node (.cons 3 (.node (.cons 10 (.node (.cons 11 (.node (.cons 12 (.node (.cons 13 (.node .nil) .nil)) .nil)) .nil)) .nil)) .nil)) .nil))) .nil))) (by kernel_rfl) (fun _ _ _ _ h => nomatch h.1) ?_
    have fin : ∀ z : Int, z = q → [Blk.c [AV.s (sb s), .i .i64 z, .s (sb tk), .i .i64 o]] = [.c (pcl s q tk o)] := fun z hz => by rw [hz]; rfl
    conv => whnf
    refine And.intro ?_ (And.intro ?_ trivial)
    · conv => whnf
      refine ACall.mono (run_spec s tk p o p 32 32 (by omega) h) ?_; rintro r0 H0 ⟨rfl, rfl⟩
      conv => whnf
      refine ⟨Nat.le_of_ble_eq_true rfl, ?_⟩
      exact ⟨rfl, fin _ hb1, rfl⟩
    · conv => whnf
      refine And.intro ?_ (And.intro ?_ trivial)
      · conv => whnf
        refine ACall.mono (run_spec s tk p o p 32 32 (by omega) h) ?_; rintro r0 H0 ⟨rfl, rfl⟩
        conv => whnf
        refine ⟨Nat.le_of_ble_eq_true rfl, ?_⟩
        exact ⟨rfl, fin _ hb1, rfl⟩
      · conv => whnf
        refine ACall.mono (run_spec s tk p o p 32 32 (by omega) h) ?_; rintro r0 H0 ⟨rfl, rfl⟩
        conv => whnf
        refine ⟨Nat.le_of_ble_eq_true rfl, ?_⟩
        exact ⟨rfl, fin _ hb1, rfl⟩
  rintro r H ⟨_, rfl, hr⟩
  refine Gh.regs [0] (Gh.of ?_)
  rw [hr]
  conv => whnf
  refine ADraw.of tok mixed false [0, 1, 2, 3, 4, 5, 6, 7, 8, 9] [] (by kernel_rfl) (fun _ _ _ _ h => h) ?_
  conv => whnf
  refine ⟨⟨by omega, by rw [sb_size]; omega⟩, ?_⟩
  conv => whnf
  have hrs : (sb s).extract ((q : Nat) : Int).toNat (sb s).size = sb (s.drop q) := by
    rw [sb_size, sb_extract, Int.toNat_natCast, List.take_of_length_le (by rw [List.length_drop]; omega)]
  refine ADraw.gh (Gh.regs [0, 2] (Gh.of ?_))
  refine ADraw.to (r' := [(0, pAV), (2, .s (sb (s.drop q)))]) (H' := [.c (pcl s q tk o)]) (by show [_, (2, AV.s _)] = _; rw [hrs]) rfl ?_
  refine ADraw.post (Q' := fun x r H => x = .normal ∧ H = [.c (pcl s q tk o)] ∧ keepR [0, 2, 3] r = [(0, pAV), (2, .s (sb (s.drop q))), (3, .i .i64 (if ((runB 48 57 (s.drop q) : Nat) : Int) > ((runB 97 122 (s.drop q) : Nat) : Int) then ((runB 48 57 (s.drop q) : Nat) : Int) else ((runB 97 122 (s.drop q) : Nat) : Int)))]) ?_ ?_ (fun x r H hn h => absurd h.1 hn)
  · refine ADraw.tree tok mixed false [] [0, 1, 2, 3, 6, 7, 8, 9] (.node (.cons 4 (.node (.cons 5 (.node (.cons 10 (.node (.cons 11 (.node (.cons 12 (.node (.cons 13 (.node .nil) .nil)) .nil)) .nil)) .nil)) (.cons 10 (.node (.cons 5 (.node (.cons 11 (.node (.cons 12 (.node (.cons 13 (.node .nil) .nil)) .nil)) .nil)) .nil)) .nil))) (.cons 10 (.node (.cons 4 (.node (.cons 5 (.node (.cons 11 (.node (.cons 12 (.node (.cons 13 (.node .nil) .nil)) .nil)) .nil)) .nil)) .nil)) .nil))) (by kernel_rfl) (fun _ _ _ _ h => nomatch h.1) ?_
    conv => whnf
    refine (And.intro ?_ (And.intro ?_ trivial))
    · conv => whnf
      refine (And.intro ?_ (And.intro ?_ trivial))
      · conv => whnf
        refine ACall.mono (run_spec s tk q o q 97 122 (by omega) hq) ?_; rintro r0 H0 ⟨rfl, rfl⟩
        conv => whnf
        refine ACall.mono (run_spec s tk q o q 48 57 (by omega) hq) ?_; rintro r0 H0 ⟨rfl, rfl⟩
        conv => whnf
        exact ⟨rfl, rfl, rfl⟩
      · conv => whnf
        refine ACall.mono (run_spec s tk q o q 97 122 (by omega) hq) ?_; rintro r0 H0 ⟨rfl, rfl⟩
        conv => whnf
        refine ACall.mono (run_spec s tk q o q 48 57 (by omega) hq) ?_; rintro r0 H0 ⟨rfl, rfl⟩
        conv => whnf
        exact ⟨rfl, rfl, rfl⟩
    · conv => whnf
      refine ACall.mono (run_spec s tk q o q 97 122 (by omega) hq) ?_; rintro r0 H0 ⟨rfl, rfl⟩
      conv => whnf
      refine ACall.mono (run_spec s tk q o q 48 57 (by omega) hq) ?_; rintro r0 H0 ⟨rfl, rfl⟩
      conv => whnf
      exact ⟨rfl, rfl, rfl⟩
  rintro r H ⟨_, rfl, hr⟩
  refine Gh.regs [0, 2, 3] (Gh.of ?_)
  rw [hr]
  obtain ⟨n0, hn0⟩ : ∃ n0 : Nat, (n0 : Int) = if ((runB 48 57 (s.drop q) : Nat) : Int) > ((runB 97 122 (s.drop q) : Nat) : Int) then ((runB 48 57 (s.drop q) : Nat) : Int) else ((runB 97 122 (s.drop q) : Nat) : Int) := by
    split
    · exact ⟨_, rfl⟩
    · exact ⟨_, rfl⟩
  have hfold := tokLen_fold _ n0 hn0
  have hn0l : n0 ≤ (s.drop q).length := by
    have := runB_le 97 122 (s.drop q); have := runB_le 48 57 (s.drop q); split at hn0 <;> omega
  rw [← hn0]
  conv => whnf
  refine ACall.frameH [] [] rfl (args' := []) (Hc := []) rfl rfl ops_own ?_
  rintro r0 H0 ⟨rfl, rfl⟩
  refine ⟨.inl rfl, [.c (pcl s q tk o), .c (strs opsL)], rfl, ?_⟩
  conv => whnf
  refine ⟨by rw [strs_length]; decide, ?_⟩
  conv => whnf
  refine ⟨by decide, ?_⟩
  conv => whnf
  refine ⟨rfl, by decide, by decide, ?_⟩
  intro c hc
  conv => whnf
  refine ALoop.ind (ip := false) tok (fun m r H => ∃ (k n : Nat), k ≤ 8 ∧ m = 8 - k ∧ n = (opsP.take k).foldl (opStep (s.drop q)) n0 ∧ H = [.c (pcl s q tk o), .c (strs opsP)] ∧
    r = [(57, .i .i64 k), (56, .i .i64 8), (55, .sl (some (1, 0)) 1 8 c), (0, pAV), (2, .s (sb (s.drop q))), (3, .i .i64 n)]) 8 ?_ ?_
  · exact Gh.regs [57, 56, 55, 0, 2, 3] (Gh.sel [0, 3] rfl (Gh.of ⟨0, n0, by omega, by omega, rfl, rfl, rfl⟩))
  · rintro m r H ⟨k, n, hk, rfl, hn, rfl, rfl⟩
    conv => whnf
    by_cases h8 : (k : Int) < 8
    · (refine acond_t (decide_eq_true h8) ?_; conv => whnf)
      refine ⟨⟨by omega, h8⟩, ?_⟩
      conv => whnf
      have hkl : k < opsP.length := by show k < 8; omega
      refine aget_strs (i := k) (by omega) hkl ?_
      conv => whnf
      have hw : IntKind.i64.wrap ((k : Int) + 1) = ((k + 1 : Nat) : Int) := by rw [IntKind.wrap_i64]; omega
      have hstep : (opsP.take (k + 1)).foldl (opStep (s.drop q)) n0 = opStep (s.drop q) n opsP[k] := by
        rw [List.take_succ_eq_append_getElem hkl, List.foldl_append, ← hn]; rfl
      have hl2 := opsP_len k hkl
      by_cases hz : n = 0
      · have hz' : ((n : Int) == 0) = true := by subst hz; rfl
        repeat (refine acond_t (hz') ?_; conv => whnf)
        refine ACall.frameH [] [] rfl (args' := [.s (sb (s.drop q)), .s (sb opsP[k])]) (Hc := []) rfl rfl (hasPrefix_spec (s.drop q) opsP[k] (by rw [List.length_drop]; omega) (by omega)) ?_
        rintro r0 H0 ⟨rfl, rfl⟩
        refine ⟨.inl rfl, [.c (pcl s q tk o), .c (strs opsP)], rfl, ?_⟩
        conv => whnf
        repeat (refine acond_t (hz') ?_; conv => whnf)
        by_cases hx : opsP[k].isPrefixOf (s.drop q) = true
        · repeat (refine acond_t (hx) ?_; conv => whnf)
          refine Gh.regs [57, 56, 55, 0, 2, 3] (Gh.of ⟨8 - (k + 1), by omega, k + 1, opsP[k].length, by omega, rfl, ?_, rfl, ?_⟩)
          · rw [hstep]; unfold opStep; rw [if_pos ⟨hz, hx⟩]
          · show [(57, AV.i IntKind.i64 (IntKind.i64.wrap ((k : Int) + 1))), _, _, _, _, (3, AV.i IntKind.i64 (((sb opsP[k]).size : Nat) : Int))] = _
            rw [hw, sb_size]
        · have hx' := Bool.eq_false_iff.2 hx
          repeat (refine acond_f (hx') ?_; conv => whnf)
          refine Gh.regs [57, 56, 55, 0, 2, 3] (Gh.of ⟨8 - (k + 1), by omega, k + 1, n, by omega, rfl, ?_, rfl, ?_⟩)
          · rw [hstep]; unfold opStep; rw [if_neg (fun e => hx e.2)]
          · exact congrArg (fun z => (57, AV.i IntKind.i64 z) :: _) hw
      · have hz' : ((n : Int) == 0) = false := by rw [beq_eq_false_iff_ne]; omega
        repeat (refine acond_f (hz') ?_; conv => whnf)
        refine Gh.regs [57, 56, 55, 0, 2, 3] (Gh.of ⟨8 - (k + 1), by omega, k + 1, n, by omega, rfl, ?_, rfl, ?_⟩)
        · rw [hstep]; unfold opStep; rw [if_neg (fun e => hz e.1)]
        · exact congrArg (fun z => (57, AV.i IntKind.i64 z) :: _) hw
    · (refine acond_f (decide_eq_false h8) ?_; conv => whnf)
      have : k = 8 := by omega
      subst this
      rw [show opsP.take 8 = opsP from rfl, hfold] at hn
      subst hn
      have hL : lexS (s.drop p) p = lexS (s.drop q) q := by rw [lexS_blanks, List.drop_drop, hqe]
      have hhd : (s.drop q).head? ≠ some 32 := by have := blanks_head (s.drop p); rw [List.drop_drop, hqe] at this; exact this
      have hle := tokLen_le (s.drop q)
      rw [List.length_drop] at hle
      rw [hL]
      by_cases hz : tokLen (s.drop q) = 0
      · have hz' : (((tokLen (s.drop q) : Nat) : Int) == 0) = true := by rw [hz]; rfl
        repeat (refine acond_t (hz') ?_; conv => whnf)
        by_cases he : s.drop q = []
        · have he' : (!((s.drop q) == ([] : Str))) = false := by rw [he]; rfl
          repeat (refine acond_f (he') ?_; conv => whnf)
          refine ⟨⟨by omega, by rw [sb_size, List.length_drop]; omega⟩, ?_⟩
          conv => whnf
          refine ⟨Nat.le_of_ble_eq_true rfl, ?_⟩
          have h1 : lexS (s.drop q) q = [([], q)] := by rw [he]; rfl
          refine GhR.sel [0] rfl (GhR.of (.inr ⟨by rw [h1]; exact (by decide : ([] : Str) ≠ [63]), rfl, ?_, q, hq, hhd, rfl, by rw [h1]; exact (by decide : ([] : Str) ≠ [63])⟩))
          show [Blk.c [_, _, .s ((sb (s.drop q)).extract 0 _), _]] = _
          rw [h1, sb_extract, he]; simp only [List.drop_nil, List.take_nil]; rfl
        · have he' : (!((s.drop q) == ([] : Str))) = true := by rw [Bool.not_eq_true', beq_eq_false_iff_ne]; exact he
          repeat (refine acond_t (he') ?_; conv => whnf)
          refine ACall.frameH [0] [] rfl (args' := [pAV, .i .i64 11]) (Hc := [.c (pcl s q tk o)]) rfl rfl (stop_spec s tk q o 11) ?_
          rintro r0 H0 ⟨rfl, rfl⟩
          refine ⟨.inl rfl, [.c (pcl s q tk o), .c (strs opsP)], rfl, ?_⟩
          conv => whnf
          have h1 := lexS_bad (p := q) he hhd hz
          exact GhR.sel [0] rfl (GhR.of (.inl ⟨by rw [h1]; rfl, by rw [h1]; rfl, _, rfl⟩))
      · have hz' : (((tokLen (s.drop q) : Nat) : Int) == 0) = false := by rw [beq_eq_false_iff_ne]; omega
        have he : s.drop q ≠ [] := fun e => hz (by rw [e]; rfl)
        repeat (refine acond_f (hz') ?_; conv => whnf)
        refine ⟨⟨by omega, by rw [sb_size, List.length_drop]; omega⟩, ?_⟩
        conv => whnf
        refine ⟨Nat.le_of_ble_eq_true rfl, ?_⟩
        have h1 := lexS_tok (p := q) he hhd hz
        have hne : (s.drop q).take (tokLen (s.drop q)) ≠ [63] := by
          intro e
          cases hr2 : s.drop q with
          | nil => exact he hr2
          | cons c r2 =>
            rw [hr2] at e hz
            cases hm : tokLen (c :: r2) with
            | zero => exact hz hm
            | succ m =>
              rw [hm, List.take_succ_cons, List.cons.injEq] at e
              rw [e.1] at hz
              exact hz rfl
        refine GhR.sel [0] rfl (GhR.of (.inr ⟨by rw [h1]; exact hne, rfl, ?_, q, hq, hhd, rfl, by rw [h1]; exact hne⟩))
        show [Blk.c [_, _, .s ((sb (s.drop q)).extract 0 _), _]] = _
        rw [h1, sb_extract, List.drop_zero, Nat.sub_zero, Int.toNat_natCast]; rfl
end Go.AK
namespace Go.AK
open Go Go.RowKit Go.Proofs
set_option linter.unusedVariables false
set_option maxRecDepth 100000
theorem St.hd {s : Str} {L : List Tok} (h : St s L) : (hdT L).2 ≤ s.length ∧ (hdT L).1 = (s.drop (hdT L).2).take (tokLen (s.drop (hdT L).2)) ∧ (s.drop (hdT L).2 ≠ [] → tokLen (s.drop (hdT L).2) ≠ 0) ∧ (s.drop (hdT L).2).head? ≠ some 32 ∧ L = lexS (s.drop (hdT L).2) (hdT L).2 := by
  obtain ⟨p, hp, hh, hL, hq⟩ := h
  have key : (hdT L).2 = p ∧ (hdT L).1 = (s.drop p).take (tokLen (s.drop p)) ∧ (s.drop p ≠ [] → tokLen (s.drop p) ≠ 0) := by
    by_cases h0 : s.drop p = []
    · rw [h0] at hL ⊢
      rw [hL, lexS_nil]
      exact ⟨rfl, rfl, fun h => absurd rfl h⟩
    · by_cases h2 : tokLen (s.drop p) = 0
      · rw [hL, lexS_bad h0 hh h2] at hq; exact absurd rfl hq
      · rw [hL, lexS_tok h0 hh h2]
        exact ⟨rfl, rfl, fun _ => h2⟩
  rw [key.1]
  exact ⟨hp, key.2.1, key.2.2, hh, hL⟩
theorem St.tail {s : Str} {L : List Tok} (h : St s L) (hne : (hdT L).1 ≠ []) :
    (hdT L).2 + (hdT L).1.length ≤ s.length ∧ L.tail = lexS (s.drop ((hdT L).2 + (hdT L).1.length)) ((hdT L).2 + (hdT L).1.length) ∧ L ≠ [] := by
  obtain ⟨h1, h2, h3, h4, h5⟩ := h.hd
  generalize (hdT L).2 = p at *
  have h0 : s.drop p ≠ [] := fun e => hne (by rw [h2, e]; rfl)
  have hl := tokLen_le (s.drop p)
  rw [List.length_drop] at hl
  have hlen : (hdT L).1.length = tokLen (s.drop p) := by rw [h2, List.length_take, List.length_drop]; omega
  rw [hlen]
  rw [lexS_tok h0 h4 (h3 h0)] at h5
  refine ⟨by omega, ?_, by rw [h5]; simp⟩
  rw [h5, List.tail_cons, List.drop_drop]
theorem next_at {s : Str} {L : List Tok} {o : Int} (h : St s L) (hne : (hdT L).1 ≠ []) (hs : s.length ≤ 100000) :
    ACall Tryd.prog 25 [pAV] [.c (pcl s (hdT L).2 (hdT L).1 o)] (NextR s L.tail o) := by
  obtain ⟨h1, h2, _⟩ := h.tail hne
  rw [h2]
  exact next_spec s _ _ o h1 hs
def TakeR (s : Str) (L : List Tok) (o : Int) (t : Str) (R : ARes) (H : Heap) : Prop :=
  ((hdT L).1 ≠ t ∧ R = .ret (.b false) ∧ H = [.c (pcl s (hdT L).2 (hdT L).1 o)]) ∨
  ((hdT L).1 = t ∧ (hdT L.tail).1 = [63] ∧ R = .pan (wrAV (hdT L.tail).2 11) ∧ ∃ cs, H = [.c cs]) ∨
  ((hdT L).1 = t ∧ (hdT L.tail).1 ≠ [63] ∧ R = .ret (.b true) ∧ H = [.c (pcl s (hdT L.tail).2 (hdT L.tail).1 o)] ∧ St s L.tail)
theorem take_spec {s : Str} {L : List Tok} {o : Int} (t : Str) (h : St s L) (ht : t ≠ []) (hs : s.length ≤ 100000) :
    ACall Tryd.prog 41 [pAV, .s (sb t)] [.c (pcl s (hdT L).2 (hdT L).1 o)] (TakeR s L o t) := by
  refine ACall.enter tok false Tryd.func41 rfl rfl rfl (AW_sound (ip := false) tok _ _ _ _ ?_)
  conv => whnf
  by_cases he : (hdT L).1 = t
  · have h1 : (!((hdT L).1 == t)) = false := by rw [he]; simp
    repeat (refine acond_f (h1) ?_; conv => whnf)
    refine ACall.mono (next_at h (by rw [he]; exact ht) hs) ?_
    rintro r0 H0 (⟨k1, rfl, cs, rfl⟩ | ⟨k1, rfl, rfl, k2⟩)
    · conv => whnf
      exact .inr (.inl ⟨he, k1, rfl, cs, rfl⟩)
    · conv => whnf
      exact .inr (.inr ⟨he, k1, rfl, rfl, k2⟩)
  · have h1 : (!((hdT L).1 == t)) = true := by simpa using he
    repeat (refine acond_t (h1) ?_; conv => whnf)
    exact .inl ⟨he, rfl, rfl⟩
/-! Numbers. -/
theorem runB_all (lo hi : Nat) : ∀ (r : Str), ∀ c ∈ r.take (runB lo hi r), lo ≤ c.toNat ∧ c.toNat ≤ hi
  | [], c, h => by simp at h
  | a :: r, c, h => by
    unfold runB at h
    split at h
    · rename_i ha
      rw [List.take_succ_cons, List.mem_cons] at h
      rcases h with rfl | h
      · exact ha
      · exact runB_all lo hi r c h
    · simp at h
theorem dig_let {r : Str} (h : 0 < runB 48 57 r) : runB 97 122 r = 0 := by
  have := run_one r
  omega
/-- The digits of a token. -/
theorem tok_dig {r : Str} (h : 0 < runB 48 57 r) : tokLen r = runB 48 57 r := by
  unfold tokLen
  rw [dig_let h, if_neg (by omega), if_pos h]
theorem badNum_iff {s : Str} {L : List Tok} (h : St s L) :
    badNum (hdT L).1 = (decide (runB 48 57 (s.drop (hdT L).2) = 0) || (((hdT L).1.getD 0 0 == 48) && decide (1 < (hdT L).1.length))) := by
  obtain ⟨h1, h2, h3, h4, h5⟩ := h.hd
  generalize (hdT L).2 = p at *
  generalize (hdT L).1 = tk at *
  subst h2
  generalize s.drop p = r at *
  cases r with
  | nil => rfl
  | cons c r =>
    have h6 := h3 (by simp)
    cases hm : tokLen (c :: r) with
    | zero => exact absurd hm h6
    | succ m =>
      rw [List.take_succ_cons]
      have e1 : runB 48 57 (c :: r) = (if 48 ≤ c.toNat ∧ c.toNat ≤ 57 then runB 48 57 r + 1 else 0) := rfl
      by_cases hd : 48 ≤ c.toNat ∧ c.toNat ≤ 57
      · rw [show decide (runB 48 57 (c :: r) = 0) = false from decide_eq_false (by rw [e1, if_pos hd]; omega)]
        simp only [badNum, isDig]
        rw [decide_eq_true hd.1, decide_eq_true hd.2]
        simp only [Bool.and_self, Bool.not_true, Bool.false_or, List.getD_cons_zero]
        congr 1
        cases r.take m <;> simp
      · rw [show decide (runB 48 57 (c :: r) = 0) = true from decide_eq_true (by rw [e1, if_neg hd])]
        simp only [badNum, isDig]
        have : (decide (48 ≤ c.toNat) && decide (c.toNat ≤ 57)) = false := by
          rw [Bool.and_eq_false_iff, decide_eq_false_iff_not, decide_eq_false_iff_not]; omega
        rw [this]; rfl
theorem valD_ge : ∀ (l : Str) (a : Nat), a ≤ l.foldl (fun n c => 10 * n + (c.toNat - 48)) a
  | [], a => Nat.le_refl _
  | c :: l, a => by
    rw [List.foldl_cons]
    exact Nat.le_trans (by omega) (valD_ge l _)
theorem parse10_dig : ∀ (l : Str) (a : Nat), (∀ c ∈ l, 48 ≤ c.toNat ∧ c.toNat ≤ 57) → a < 18446744073709551616 →
    Lib.parseUint10 a l = if l.foldl (fun n c => 10 * n + (c.toNat - 48)) a < 18446744073709551616 then .ok (l.foldl (fun n c => 10 * n + (c.toNat - 48)) a) else .range
  | [], a, _, ha => by rw [Lib.parseUint10, List.foldl_nil, if_pos ha]
  | c :: l, a, h, ha => by
    have hc := h c (by simp)
    have hg := valD_ge l (10 * a + (c.toNat - 48))
    rw [Lib.parseUint10, if_pos hc, List.foldl_cons]
    by_cases h1 : 1844674407370955162 ≤ a
    · rw [if_pos h1, if_neg (by omega)]
    · rw [if_neg h1]
      by_cases h2 : 18446744073709551616 ≤ a * 10 + (c.toNat - 48)
      · rw [if_pos h2, if_neg (by omega)]
      · rw [if_neg h2, Nat.mul_comm a 10]
        exact parse10_dig l _ (fun x hx => h x (by simp [hx])) (by omega)
theorem atoi_dig {l : Str} (h : ∀ c ∈ l, 48 ≤ c.toNat ∧ c.toNat ≤ 57) (h0 : l ≠ []) :
    Lib.atoiAll l = if 9223372036854775807 < valD l then .range else .ok ((valD l : Nat) : Int) := by
  cases l with
  | nil => exact absurd rfl h0
  | cons c l =>
    have hc := h c (by simp)
    have hp := parse10_dig (c :: l) 0 h (by omega)
    rw [Lib.atoiAll_plain c l (by omega) (by omega)]
    unfold Lib.parseMag
    rw [if_neg (by simp), hp]
    show Lib.signless (if valD (c :: l) < 18446744073709551616 then Lib.NumEnd.ok (valD (c :: l)) else Lib.NumEnd.range) = _
    by_cases h1 : valD (c :: l) < 18446744073709551616
    · rw [if_pos h1]
      show (if 9223372036854775808 ≤ valD (c :: l) then Lib.NumEnd.range else Lib.NumEnd.ok ((valD (c :: l) : Nat) : Int)) = _
      by_cases h2 : 9223372036854775807 < valD (c :: l)
      · rw [if_pos h2, if_pos (by omega)]
      · rw [if_neg h2, if_neg (by omega)]
    · rw [if_neg h1, if_pos (by omega)]; rfl
def NumR (s : Str) (L : List Tok) (o : Int) (R : ARes) (H : Heap) : Prop :=
  (badNum (hdT L).1 = true ∧ R = .pan (wrAV (hdT L).2 11) ∧ ∃ cs, H = [.c cs]) ∨
  (badNum (hdT L).1 = false ∧ 9223372036854775807 < valD (hdT L).1 ∧ R = .pan (wrAV (hdT L).2 10) ∧ ∃ cs, H = [.c cs]) ∨
  (badNum (hdT L).1 = false ∧ ¬ 9223372036854775807 < valD (hdT L).1 ∧ (hdT L.tail).1 = [63] ∧ R = .pan (wrAV (hdT L.tail).2 11) ∧ ∃ cs, H = [.c cs]) ∨
  (badNum (hdT L).1 = false ∧ ¬ 9223372036854775807 < valD (hdT L).1 ∧ (hdT L.tail).1 ≠ [63] ∧ R = .ret (.i .i64 (valD (hdT L).1)) ∧ H = [.c (pcl s (hdT L.tail).2 (hdT L.tail).1 o)] ∧ St s L.tail)
theorem number_spec {s : Str} {L : List Tok} {o : Int} (h : St s L) (hs : s.length ≤ 100000) :
    ACall Tryd.prog 64 [pAV] [.c (pcl s (hdT L).2 (hdT L).1 o)] (NumR s L o) := by
  have hb := badNum_iff h
  obtain ⟨h1, h2, h3, h4, h5⟩ := h.hd
  refine ACall.enter tok false Tryd.func64 rfl rfl rfl (AW_sound (ip := false) tok _ _ _ _ ?_)
  conv => whnf
  refine ACall.mono (run_spec s (hdT L).1 (hdT L).2 o (hdT L).2 48 57 (by omega) h1) ?_; rintro r0 H0 ⟨rfl, rfl⟩
  conv => whnf
  have hlenr : (s.drop (hdT L).2).length = s.length - (hdT L).2 := List.length_drop
  by_cases hr : runB 48 57 (s.drop (hdT L).2) = 0
  · have c1 : (((runB 48 57 (s.drop (hdT L).2) : Nat) : Int) == 0) = true := by rw [hr]; rfl
    repeat (refine acond_t (c1) ?_; conv => whnf)
    refine ACall.mono (stop_spec s (hdT L).1 (hdT L).2 o 11) ?_; rintro r0 H0 ⟨rfl, rfl⟩
    conv => whnf
    exact .inl ⟨by rw [hb, hr]; rfl, rfl, _, rfl⟩
  · have c1 : (((runB 48 57 (s.drop (hdT L).2) : Nat) : Int) == 0) = false := by rw [beq_eq_false_iff_ne]; omega
    have hlr := runB_le 48 57 (s.drop (hdT L).2)
    have htl : (hdT L).1.length = runB 48 57 (s.drop (hdT L).2) := by rw [h2, List.length_take, tok_dig (by omega)]; omega
    have hdig : ∀ c ∈ (hdT L).1, 48 ≤ c.toNat ∧ c.toNat ≤ 57 := by
      rw [h2, tok_dig (by omega)]; exact runB_all 48 57 _
    have hne : (hdT L).1 ≠ [] := fun e => by rw [e] at htl; exact hr htl.symm
    repeat (refine acond_f (c1) ?_; conv => whnf)
    refine ⟨⟨by decide, by rw [sb_size]; omega⟩, ?_⟩
    conv => whnf
    repeat (refine acond_f (c1) ?_; conv => whnf)
    rw [decide_eq_false hr, Bool.false_or] at hb
    have fin : badNum (hdT L).1 = false → ACall Tryd.prog 70 [.s (sb (hdT L).1)] [] fun R H => (9223372036854775807 < valD (hdT L).1 ∧ R = .ret (.tup [.i .i64 (Lib.atoiSat (hdT L).1), .ifc 121 .un]) ∧ H = []) ∨ (¬ 9223372036854775807 < valD (hdT L).1 ∧ R = .ret (.tup [.i .i64 (valD (hdT L).1), .nili]) ∧ H = []) := by
      intro _
      have ha := atoi_dig hdig hne
      by_cases hv : 9223372036854775807 < valD (hdT L).1
      · rw [if_pos hv] at ha
        exact ACall.mono (atoi_range_spec (sb (hdT L).1) (by rw [sb_size]; omega) ha []) fun R H ⟨a, b⟩ => .inl ⟨hv, a, b⟩
      · rw [if_neg hv] at ha
        exact ACall.mono (atoi_ok_spec (sb (hdT L).1) (by rw [sb_size]; omega) _ ha []) fun R H ⟨a, b⟩ => .inr ⟨hv, a, b⟩
    have h48b : ((hdT L).1.getD 0 0 == 48) = decide ((((hdT L).1.getD 0 0).toNat : Int) = 48) := by
      rw [Bool.eq_iff_iff, beq_iff_eq, decide_eq_true_iff, ← UInt8.toNat_inj]
      show _ = 48 ↔ _
      omega
    by_cases h48 : (((hdT L).1.getD 0 0).toNat : Int) = 48
    · have c2 : (((((sb (hdT L).1).data.toList.getD (0 : Int).toNat 0).toNat : Nat) : Int) == 48) = true := by
        rw [beq_iff_eq]; exact h48
      repeat (first | (refine acond_f (c1) ?_; conv => whnf) | (refine acond_t (c2) ?_; conv => whnf))
      rw [h48b, decide_eq_true h48, Bool.true_and] at hb
      by_cases h1l : (((sb (hdT L).1).size : Nat) : Int) > 1
      · repeat (first | (refine acond_f (c1) ?_; conv => whnf) | (refine acond_t (c2) ?_; conv => whnf) | (refine acond_t (decide_eq_true h1l) ?_; conv => whnf))
        refine ACall.mono (stop_spec s (hdT L).1 (hdT L).2 o 11) ?_; rintro r0 H0 ⟨rfl, rfl⟩
        conv => whnf
        rw [sb_size] at h1l
        exact .inl ⟨by rw [hb, decide_eq_true (by omega)], rfl, _, rfl⟩
      · repeat (first | (refine acond_f (c1) ?_; conv => whnf) | (refine acond_t (c2) ?_; conv => whnf) | (refine acond_f (decide_eq_false h1l) ?_; conv => whnf))
        rw [sb_size] at h1l
        have hbf : badNum (hdT L).1 = false := by rw [hb, decide_eq_false (by omega)]
        refine ACall.frameH [] [] rfl (args' := [.s (sb (hdT L).1)]) (Hc := []) rfl rfl (fin hbf) ?_
        rintro r0 H0 (⟨hv, rfl, rfl⟩ | ⟨hv, rfl, rfl⟩)
        · refine ⟨.inl rfl, [.c (pcl s (hdT L).2 (hdT L).1 o)], rfl, ?_⟩
          conv => whnf
          refine ACall.mono (stop_spec s (hdT L).1 (hdT L).2 o 10) ?_; rintro r0 H0 ⟨rfl, rfl⟩
          conv => whnf
          exact .inr (.inl ⟨hbf, hv, rfl, _, rfl⟩)
        · refine ⟨.inl rfl, [.c (pcl s (hdT L).2 (hdT L).1 o)], rfl, ?_⟩
          conv => whnf
          refine ACall.mono (next_at h hne hs) ?_
          rintro r0 H0 (⟨k1, rfl, cs, rfl⟩ | ⟨k1, rfl, rfl, k2⟩)
          · conv => whnf
            exact .inr (.inr (.inl ⟨hbf, hv, k1, rfl, cs, rfl⟩))
          · conv => whnf
            exact .inr (.inr (.inr ⟨hbf, hv, k1, rfl, rfl, k2⟩))
    · have c2 : (((((sb (hdT L).1).data.toList.getD (0 : Int).toNat 0).toNat : Nat) : Int) == 48) = false := by
        rw [beq_eq_false_iff_ne]; exact h48
      repeat (first | (refine acond_f (c1) ?_; conv => whnf) | (refine acond_f (c2) ?_; conv => whnf))
      have hbf : badNum (hdT L).1 = false := by rw [hb, h48b, decide_eq_false h48]; rfl
      refine ACall.frameH [] [] rfl (args' := [.s (sb (hdT L).1)]) (Hc := []) rfl rfl (fin hbf) ?_
      rintro r0 H0 (⟨hv, rfl, rfl⟩ | ⟨hv, rfl, rfl⟩)
      · refine ⟨.inl rfl, [.c (pcl s (hdT L).2 (hdT L).1 o)], rfl, ?_⟩
        conv => whnf
        refine ACall.mono (stop_spec s (hdT L).1 (hdT L).2 o 10) ?_; rintro r0 H0 ⟨rfl, rfl⟩
        conv => whnf
        exact .inr (.inl ⟨hbf, hv, rfl, _, rfl⟩)
      · refine ⟨.inl rfl, [.c (pcl s (hdT L).2 (hdT L).1 o)], rfl, ?_⟩
        conv => whnf
        refine ACall.mono (next_at h hne hs) ?_
        rintro r0 H0 (⟨k1, rfl, cs, rfl⟩ | ⟨k1, rfl, rfl, k2⟩)
        · conv => whnf
          exact .inr (.inr (.inl ⟨hbf, hv, k1, rfl, cs, rfl⟩))
        · conv => whnf
          exact .inr (.inr (.inr ⟨hbf, hv, k1, rfl, rfl, k2⟩))
end Go.AK
namespace Go.AK
open Go Go.RowKit Go.Proofs
set_option linter.unusedVariables false
set_option maxRecDepth 100000
theorem sub_av (φ : Nat → Sb) : ∀ x : Ex, sub φ x.av = x.av
  | .nil => by simp only [Ex.av, sub]
  | .nd k w o n l r => by simp only [Ex.av, sub, subs, sub_av φ l, sub_av φ r]
theorem av_one (x : Ex) : x.av.one = true := by cases x <;> rfl
theorem plain_spec (x : Ex) : ACall Tryd.prog 13 [x.av] [] fun r H => r = .ret x.av ∧ H = [] := by
  induction x with
  | nil =>
    refine ACall.enter tok false Tryd.func13 rfl rfl rfl (AW_sound (ip := false) tok _ _ _ _ ?_)
    conv => whnf
    exact ⟨rfl, rfl⟩
  | nd k w o n l r ihl ihr =>
    refine ACall.gh ?_
    refine ACall.enter tok false Tryd.func13 rfl rfl rfl (AW_sound (ip := false) tok _ _ _ _ ?_)
    conv => whnf
    refine ADraw.ofS tok mixed false [3, 7, 11, 15, 19, 24] [0, 1, 2, 3, 4, 5, 6, 7, 8, 9, 10, 11, 12, 13, 14, 15, 16, 17, 18, 19, 21, 22, 23, 24] [20, 25, 26, 27, 28] (by kernel_rfl) (fun _ _ _ _ h => h) ?_
    conv => whnf
    refine ACall.mono ihl ?_; rintro r0 H ⟨rfl, rfl⟩
    conv => whnf
    refine ACall.mono ihr ?_; rintro r0 H ⟨rfl, rfl⟩
    have hl := sub_av
    cases l <;> cases r <;> (
      conv => whnf
      refine GhR.frz 0 rfl (GhR.sel [] rfl (GhR.of ⟨?_, rfl⟩))
      show ARes.ret (.rp [.i .i64 k, .s (sb w), .s (sb o), .i .i64 n, sub _ (Ex.av _), sub _ (Ex.av _)] 0) = _
      simp only [sub_av]; rfl)
end Go.AK
namespace Go.AK
open Go Go.RowKit Go.Proofs
set_option linter.unusedVariables false
set_option maxRecDepth 100000
/-- What a parser's call comes to. -/
def PK (s : Str) (o : Int) (r : PR) (R : ARes) (H : Heap) : Prop := match r with
  | .out => False
  | .err p e => R = .pan (wrAV p e) ∧ ∃ cs, H = [.c cs]
  | .ok x L => R = .ret x.av ∧ H = [.c (pcl s (hdT L).2 (hdT L).1 o)] ∧ St s L
theorem PK.cases {s : Str} {o : Int} {r : PR} {R : ARes} {H : Heap} (h : PK s o r R H) :
    (∃ p e, r = .err p e ∧ R = .pan (wrAV p e) ∧ ∃ cs, H = [.c cs]) ∨ (∃ x L, r = .ok x L ∧ R = .ret x.av ∧ H = [.c (pcl s (hdT L).2 (hdT L).1 o)] ∧ St s L) := by
  cases r with
  | out => exact h.elim
  | err p e => exact .inl ⟨p, e, rfl, h⟩
  | ok x L => exact .inr ⟨x, L, rfl, h⟩
def Spec (s : Str) (fn f : Nat) (m : Md) : Prop := ∀ (o : Nat) (L : List Tok), o ≤ 64 → St s L → pp true f m o L ≠ .out →
  ACall Tryd.prog fn [pAV] [.c (pcl s (hdT L).2 (hdT L).1 o)] (PK s o (pp true f m o L))
theorem nxt_bad {L : List Tok} {k : List Tok → PR} (h : (hdT L.tail).1 = [63]) : nxt true L k = .err (hdT L.tail).2 11 := by
  unfold nxt; rw [if_pos ⟨rfl, h⟩]
theorem nxt_ok {L : List Tok} {k : List Tok → PR} (h : (hdT L.tail).1 ≠ [63]) : nxt true L k = k L.tail := by
  unfold nxt; rw [if_neg (fun e => h e.2)]
theorem not_step {s : Str} {f : Nat} (hs : s.length ≤ 100000) (ihn : Spec s 51 f .not) (iho : Spec s 60 f .opd) :
    Spec s 51 (f + 1) .not := by
  intro o L ho hS hout
  have he : pp true (f + 1) .not o L = if (hdT L).1 = wNot then nxt true L fun L => (pp true f .not o L).bind fun x L => .ok (.nd 1 [] [] 0 x .nil) L else pp true f .opd o L := rfl
  generalize pp true (f + 1) .not o L = r at he hout ⊢
  refine ACall.gh ?_
  refine ACall.enter tok false Tryd.func51 rfl rfl rfl (AW_sound (ip := false) tok _ _ _ _ ?_)
  conv => whnf
  refine ACall.mono (take_spec wNot hS (by decide) hs) ?_
  rintro R H (⟨k1, rfl, rfl⟩ | ⟨k1, k2, rfl, cs, rfl⟩ | ⟨k1, k2, rfl, rfl, k3⟩)
  · rw [if_neg k1] at he
    conv => whnf
    refine ACall.mono (iho o L ho hS (he ▸ hout)) ?_
    intro R H hP
    rcases hP.cases with ⟨p, e, hr, rfl, cs, rfl⟩ | ⟨x, L', hr, rfl, rfl, hS'⟩
    · rw [hr] at he; subst he
      conv => whnf
      exact GhR.of ⟨rfl, cs, rfl⟩
    · rw [hr] at he; subst he
      conv => whnf
      exact GhR.of ⟨rfl, rfl, hS'⟩
  · rw [if_pos k1, nxt_bad k2] at he
    subst he
    conv => whnf
    exact GhR.of ⟨rfl, cs, rfl⟩
  · rw [if_pos k1, nxt_ok k2] at he
    conv => whnf
    refine ACall.mono (ihn o L.tail ho k3 (fun e => hout (by rw [he, e]; rfl))) ?_
    intro R H hP
    rcases hP.cases with ⟨p, e, hr, rfl, cs, rfl⟩ | ⟨x, L', hr, rfl, rfl, hS'⟩
    · rw [hr] at he; subst he
      conv => whnf
      exact GhR.of ⟨rfl, cs, rfl⟩
    · rw [hr] at he
      subst he
      have hx := sub_av
      cases x <;> (
        conv => whnf
        refine GhR.frz 1 rfl (GhR.sel [0] rfl (GhR.of ⟨?_, rfl, hS'⟩))
        show ARes.ret (.rp [.i .i64 1, .s (sb []), .s (sb []), .i .i64 0, sub _ (Ex.av _), .p none] 0) = _
        simp only [sub_av]; rfl)
theorem and_step {s : Str} {f : Nat} (hs : s.length ≤ 100000) (ih : ∀ g, g ≤ f → Spec s 51 g .not) :
    Spec s 40 (f + 1) .and := by
  intro o L ho hS hout
  have he : pp true (f + 1) .and o L = (pp true f .not o L).bind fun x L => pp true f (.andL x) o L := rfl
  generalize pp true (f + 1) .and o L = r at he hout ⊢
  refine ACall.gh ?_
  refine ACall.enter tok false Tryd.func40 rfl rfl rfl (AW_sound (ip := false) tok _ _ _ _ ?_)
  conv => whnf
  refine ACall.mono (ih f (Nat.le_refl _) o L ho hS (fun e => hout (by rw [he, e]; rfl))) ?_
  intro R H hP
  rcases hP.cases with ⟨p, e, hr, rfl, cs, rfl⟩ | ⟨x0, L0, hr, rfl, rfl, hS0⟩
  · rw [hr] at he; subst he
    conv => whnf
    exact GhR.of ⟨rfl, cs, rfl⟩
  rw [hr] at he
  replace he : r = pp true f (.andL x0) o L0 := he
  conv => whnf
  refine ALoop.ind (ip := false) tok (fun m r1 H => ∃ (g : Nat) (x : Ex) (L : List Tok), m = g ∧ g ≤ f ∧ r = pp true g (.andL x) o L ∧ St s L ∧ H = [.c (pcl s (hdT L).2 (hdT L).1 o)] ∧
    r1 = [(3, x.av), (0, pAV), (2, .p none)]) f ?_ ?_
  · exact Gh.regs [3, 0, 2] (Gh.of ⟨f, x0, L0, rfl, Nat.le_refl _, he, hS0, rfl, rfl⟩)
  · rintro m r1 H ⟨g, x, L, rfl, hg, he, hS, rfl, rfl⟩
    conv => whnf
    refine ACall.mono (take_spec wAnd hS (by decide) hs) ?_
    cases m with
    | zero => exact absurd he hout
    | succ g =>
    replace he : r = if (hdT L).1 = wAnd then nxt true L fun L => (pp true g .not o L).bind fun y L => pp true g (.andL (.nd 2 [] [] 0 x y)) o L else .ok x L := he
    rintro R H (⟨k1, rfl, rfl⟩ | ⟨k1, k2, rfl, cs, rfl⟩ | ⟨k1, k2, rfl, rfl, k3⟩)
    · rw [if_neg k1] at he
      subst he
      conv => whnf
      exact GhR.of ⟨rfl, rfl, hS⟩
    · rw [if_pos k1, nxt_bad k2] at he
      subst he
      conv => whnf
      exact GhR.of ⟨rfl, cs, rfl⟩
    · rw [if_pos k1, nxt_ok k2] at he
      conv => whnf
      refine ACall.mono (ih g (by omega) o L.tail ho k3 (fun e => hout (by rw [he, e]; rfl))) ?_
      intro R H hP
      rcases hP.cases with ⟨p, e, hr, rfl, cs, rfl⟩ | ⟨y, L', hr, rfl, rfl, hS'⟩
      · rw [hr] at he
        subst he
        conv => whnf
        exact GhR.of ⟨rfl, cs, rfl⟩
      · rw [hr] at he
        replace he : r = pp true g (.andL (.nd 2 [] [] 0 x y)) o L' := he
        cases x <;> cases y <;> (
          conv => whnf
          refine Gh.regs [3, 0, 2] (Gh.frz 1 rfl (Gh.sel [0] rfl (Gh.of ⟨g, by omega, g, _, L', rfl, by omega, he, hS', rfl, ?_⟩)))
          show [(3, AV.rp [.i .i64 2, .s (sb []), .s (sb []), .i .i64 0, sub _ (Ex.av _), sub _ (Ex.av _)] 0), (0, pAV), (2, AV.p none)] = _
          simp only [sub_av]; rfl)
theorem or_step {s : Str} {f : Nat} (hs : s.length ≤ 100000) (ih : ∀ g, g ≤ f → Spec s 40 g .and) :
    Spec s 26 (f + 1) .or := by
  intro o L ho hS hout
  have he : pp true (f + 1) .or o L = (pp true f .and o L).bind fun x L => pp true f (.orL x) o L := rfl
  generalize pp true (f + 1) .or o L = r at he hout ⊢
  refine ACall.gh ?_
  refine ACall.enter tok false Tryd.func26 rfl rfl rfl (AW_sound (ip := false) tok _ _ _ _ ?_)
  conv => whnf
  refine ACall.mono (ih f (Nat.le_refl _) o L ho hS (fun e => hout (by rw [he, e]; rfl))) ?_
  intro R H hP
  rcases hP.cases with ⟨p, e, hr, rfl, cs, rfl⟩ | ⟨x0, L0, hr, rfl, rfl, hS0⟩
  · rw [hr] at he; subst he
    conv => whnf
    exact GhR.of ⟨rfl, cs, rfl⟩
  rw [hr] at he
  replace he : r = pp true f (.orL x0) o L0 := he
  conv => whnf
  refine ALoop.ind (ip := false) tok (fun m r1 H => ∃ (g : Nat) (x : Ex) (L : List Tok), m = g ∧ g ≤ f ∧ r = pp true g (.orL x) o L ∧ St s L ∧ H = [.c (pcl s (hdT L).2 (hdT L).1 o)] ∧
    r1 = [(3, x.av), (0, pAV), (2, .p none)]) f ?_ ?_
  · exact Gh.regs [3, 0, 2] (Gh.of ⟨f, x0, L0, rfl, Nat.le_refl _, he, hS0, rfl, rfl⟩)
  · rintro m r1 H ⟨g, x, L, rfl, hg, he, hS, rfl, rfl⟩
    conv => whnf
    refine ACall.mono (take_spec wOr hS (by decide) hs) ?_
    cases m with
    | zero => exact absurd he hout
    | succ g =>
    replace he : r = if (hdT L).1 = wOr then nxt true L fun L => (pp true g .and o L).bind fun y L => pp true g (.orL (.nd 3 [] [] 0 x y)) o L else .ok x L := he
    rintro R H (⟨k1, rfl, rfl⟩ | ⟨k1, k2, rfl, cs, rfl⟩ | ⟨k1, k2, rfl, rfl, k3⟩)
    · rw [if_neg k1] at he
      subst he
      conv => whnf
      exact GhR.of ⟨rfl, rfl, hS⟩
    · rw [if_pos k1, nxt_bad k2] at he
      subst he
      conv => whnf
      exact GhR.of ⟨rfl, cs, rfl⟩
    · rw [if_pos k1, nxt_ok k2] at he
      conv => whnf
      refine ACall.mono (ih g (by omega) o L.tail ho k3 (fun e => hout (by rw [he, e]; rfl))) ?_
      intro R H hP
      rcases hP.cases with ⟨p, e, hr, rfl, cs, rfl⟩ | ⟨y, L', hr, rfl, rfl, hS'⟩
      · rw [hr] at he
        subst he
        conv => whnf
        exact GhR.of ⟨rfl, cs, rfl⟩
      · rw [hr] at he
        replace he : r = pp true g (.orL (.nd 3 [] [] 0 x y)) o L' := he
        cases x <;> cases y <;> (
          conv => whnf
          refine Gh.regs [3, 0, 2] (Gh.frz 1 rfl (Gh.sel [0] rfl (Gh.of ⟨g, by omega, g, _, L', rfl, by omega, he, hS', rfl, ?_⟩)))
          show [(3, AV.rp [.i .i64 3, .s (sb []), .s (sb []), .i .i64 0, sub _ (Ex.av _), sub _ (Ex.av _)] 0), (0, pAV), (2, AV.p none)] = _
          simp only [sub_av]; rfl)
end Go.AK
namespace Go.AK
open Go Go.RowKit Go.Proofs
set_option linter.unusedVariables false
set_option maxRecDepth 100000
theorem ACall.heq {P : Program} {f : Nat} {args : List AV} {H H' : Heap} {K : ARes → Heap → Prop} (e : H = H') (h : ACall P f args H' K) : ACall P f args H K := by
  subst e; exact h
theorem isWord_iff {s : Str} {L : List Tok} (h : St s L) : decide (((runB 97 122 (s.drop (hdT L).2) : Nat) : Int) > 0) = isWord (hdT L).1 := by
  obtain ⟨h1, h2, h3, h4, h5⟩ := h.hd
  generalize (hdT L).2 = p at *
  generalize (hdT L).1 = tk at *
  subst h2
  generalize s.drop p = r at *
  cases r with
  | nil => rfl
  | cons c r =>
    have h6 := h3 (by simp)
    cases hm : tokLen (c :: r) with
    | zero => exact absurd hm h6
    | succ m =>
      rw [List.take_succ_cons]
      have e1 : runB 97 122 (c :: r) = (if 97 ≤ c.toNat ∧ c.toNat ≤ 122 then runB 97 122 r + 1 else 0) := rfl
      simp only [isWord, isLet]
      by_cases hd : 97 ≤ c.toNat ∧ c.toNat ≤ 122
      · rw [decide_eq_true (by rw [e1, if_pos hd]; omega), decide_eq_true hd.1, decide_eq_true hd.2]; rfl
      · rw [decide_eq_false (by rw [e1, if_neg hd]; omega)]
        symm
        rw [Bool.and_eq_false_iff, decide_eq_false_iff_not, decide_eq_false_iff_not]; omega
theorem opd_step {s : Str} {f : Nat} (hs : s.length ≤ 100000) (iho : Spec s 26 f .or) :
    Spec s 60 (f + 1) .opd := by
  intro o L ho hS hout
  have he : pp true (f + 1) .opd o L = (
    if (hdT L).1 = [40] then
      if o = 64 then .err (hdT L).2 12
      else nxt true L fun L => (pp true f .or (o + 1) L).bind fun x L => if (hdT L).1 = [41] then nxt true L fun L => .ok x L else .err (hdT L).2 11
    else if (hdT L).1 = wTrue ∨ (hdT L).1 = wFalse then nxt true L fun L' => .ok (.nd (if (hdT L).1 = wTrue then 6 else 7) [] [] 0 .nil .nil) L'
    else if flagsL.contains (hdT L).1 = true then nxt true L fun L' => .ok (.nd 5 (hdT L).1 [] 0 .nil .nil) L'
    else if numbersL.contains (hdT L).1 = true then
      nxt true L fun L1 => if opsL.contains (hdT L1).1 = true then nxt true L1 fun L2 => pnum true L2 fun n L3 => .ok (.nd 4 (hdT L).1 (hdT L1).1 n .nil .nil) L3 else .err (hdT L1).2 11
    else if isWord (hdT L).1 = true ∧ (hdT L).1 ≠ wAnd ∧ (hdT L).1 ≠ wOr then .err (hdT L).2 21 else .err (hdT L).2 11) := rfl
  generalize pp true (f + 1) .opd o L = r at he hout ⊢
  refine ACall.gh ?_
  refine ACall.enter tok false Tryd.func60 rfl rfl rfl (AW_sound (ip := false) tok _ _ _ _ ?_)
  conv => whnf
  by_cases c1 : (hdT L).1 = [40]
  · have b1 : ((hdT L).1 == [40]) = true := by rw [c1]; rfl
    rw [if_pos c1] at he
    repeat (first | (refine acond_t (b1) ?_; conv => whnf))
    by_cases c2 : o = 64
    · have b2 : (((o : Nat) : Int) == 64) = true := by rw [c2]; rfl
      rw [if_pos c2] at he
      subst he
      repeat (first | (refine acond_t (b2) ?_; conv => whnf))
      refine ACall.mono (stop_spec s (hdT L).1 (hdT L).2 o 12) ?_; rintro r0 H0 ⟨rfl, rfl⟩
      conv => whnf
      exact GhR.of ⟨rfl, _, rfl⟩
    · have b2 : (((o : Nat) : Int) == 64) = false := by rw [beq_eq_false_iff_ne]; omega
      rw [if_neg c2] at he
      have hw1 : IntKind.i64.wrap ((o : Int) + 1) = ((o + 1 : Nat) : Int) := by rw [IntKind.wrap_i64]; omega
      have hw2 : IntKind.i64.wrap (((o + 1 : Nat) : Int) - 1) = (o : Int) := by rw [IntKind.wrap_i64]; omega
      repeat (first | (refine acond_f (b2) ?_; conv => whnf))
      refine ⟨Nat.le_of_ble_eq_true rfl, ?_⟩
      conv => whnf
      refine ACall.heq (H' := [.c (pcl s (hdT L).2 (hdT L).1 ((o + 1 : Nat) : Int))]) (by show [Blk.c [_, _, _, .i .i64 (IntKind.i64.wrap _)]] = _; rw [hw1]; rfl) ?_
      refine ACall.mono (next_at hS (by rw [c1]; decide) hs) ?_
      rintro R H (⟨k1, rfl, cs, rfl⟩ | ⟨k1, rfl, rfl, hS1⟩)
      · rw [nxt_bad k1] at he; subst he
        conv => whnf
        exact GhR.of ⟨rfl, cs, rfl⟩
      rw [nxt_ok k1] at he
      conv => whnf
      refine ACall.mono (iho (o + 1) L.tail (by omega) hS1 (fun e => hout (by rw [he, e]; rfl))) ?_
      intro R H hP
      rcases hP.cases with ⟨p, e, hr, rfl, cs, rfl⟩ | ⟨x, L2, hr, rfl, rfl, hS2⟩
      · rw [hr] at he; subst he
        conv => whnf
        exact GhR.of ⟨rfl, cs, rfl⟩
      rw [hr] at he
      replace he : r = if (hdT L2).1 = [41] then nxt true L2 fun L => .ok x L else .err (hdT L2).2 11 := he
      conv => whnf
      by_cases c3 : (hdT L2).1 = [41]
      · have b3 : (!((hdT L2).1 == [41])) = false := by rw [c3]; rfl
        rw [if_pos c3] at he
        repeat (first | (refine acond_f (b3) ?_; conv => whnf))
        refine ⟨Nat.le_of_ble_eq_true rfl, ?_⟩
        conv => whnf
        refine ACall.heq (H' := [.c (pcl s (hdT L2).2 (hdT L2).1 o)]) (by show [Blk.c [_, _, _, .i .i64 (IntKind.i64.wrap _)]] = _; rw [hw2]; rfl) ?_
        refine ACall.mono (next_at hS2 (by rw [c3]; decide) hs) ?_
        rintro R H (⟨k1, rfl, cs, rfl⟩ | ⟨k1, rfl, rfl, hS3⟩)
        · rw [nxt_bad k1] at he; subst he
          conv => whnf
          exact GhR.of ⟨rfl, cs, rfl⟩
        · rw [nxt_ok k1] at he; subst he
          conv => whnf
          exact GhR.of ⟨rfl, rfl, hS3⟩
      · have b3 : (!((hdT L2).1 == [41])) = true := by simpa using c3
        rw [if_neg c3] at he
        subst he
        repeat (first | (refine acond_t (b3) ?_; conv => whnf))
        refine ACall.mono (stop_spec s (hdT L2).1 (hdT L2).2 _ 11) ?_; rintro r0 H0 ⟨rfl, rfl⟩
        conv => whnf
        exact GhR.of ⟨rfl, _, rfl⟩
  have b1 : ((hdT L).1 == [40]) = false := by simpa using c1
  rw [if_neg c1] at he
  repeat (first | (refine acond_f (b1) ?_; conv => whnf))
  by_cases c2 : (hdT L).1 = wTrue ∨ (hdT L).1 = wFalse
  · rw [if_pos c2] at he
    have hne : (hdT L).1 ≠ [] := by rcases c2 with e | e <;> rw [e] <;> decide
    by_cases c3 : (hdT L).1 = wTrue
    · have b3 : ((hdT L).1 == wTrue) = true := by rw [c3]; rfl
      repeat (first | (refine acond_t (b3) ?_; conv => whnf))
      refine ACall.mono (next_at hS hne hs) ?_
      rintro R H (⟨k1, rfl, cs, rfl⟩ | ⟨k1, rfl, rfl, hS1⟩)
      · rw [nxt_bad k1] at he; subst he
        conv => whnf
        exact GhR.of ⟨rfl, cs, rfl⟩
      · rw [nxt_ok k1, if_pos c3] at he; subst he
        conv => whnf
        repeat (first | (refine acond_t (b3) ?_; conv => whnf))
        exact GhR.frz 2 rfl (GhR.sel [0] rfl (GhR.of ⟨rfl, rfl, hS1⟩))
    · have c4 : (hdT L).1 = wFalse := c2.resolve_left c3
      have b3 : ((hdT L).1 == wTrue) = false := by simpa using c3
      have b4 : ((hdT L).1 == wFalse) = true := by rw [c4]; rfl
      repeat (first | (refine acond_f (b3) ?_; conv => whnf) | (refine acond_t (b4) ?_; conv => whnf))
      refine ACall.mono (next_at hS hne hs) ?_
      rintro R H (⟨k1, rfl, cs, rfl⟩ | ⟨k1, rfl, rfl, hS1⟩)
      · rw [nxt_bad k1] at he; subst he
        conv => whnf
        exact GhR.of ⟨rfl, cs, rfl⟩
      · rw [nxt_ok k1, if_neg c3] at he; subst he
        conv => whnf
        repeat (first | (refine acond_f (b3) ?_; conv => whnf) | (refine acond_t (b4) ?_; conv => whnf))
        exact GhR.frz 2 rfl (GhR.sel [0] rfl (GhR.of ⟨rfl, rfl, hS1⟩))
  rw [if_neg c2] at he
  have b2 : ((hdT L).1 == wTrue) = false := by simpa using fun e => c2 (.inl e)
  have b3 : ((hdT L).1 == wFalse) = false := by simpa using fun e => c2 (.inr e)
  repeat (first | (refine acond_f (b2) ?_; conv => whnf) | (refine acond_f (b3) ?_; conv => whnf))
  refine ACall.frameH [] [] rfl (args' := []) (Hc := []) rfl rfl flags_spec ?_
  rintro r0 H0 ⟨rfl, rfl⟩
  refine ⟨.inl rfl, [.c (pcl s (hdT L).2 (hdT L).1 o)], rfl, ?_⟩
  conv => whnf
  refine ACall.frameH [] [] rfl (args' := [.rs (strs flagsL) 0 1 flagsL.length, .s (sb (hdT L).1)]) (Hc := []) rfl rfl (contains_spec flagsL (hdT L).1 (by decide)) ?_
  rintro r0 H0 ⟨rfl, rfl⟩
  refine ⟨.inl rfl, [.c (pcl s (hdT L).2 (hdT L).1 o)], rfl, ?_⟩
  conv => whnf
  by_cases c3 : flagsL.contains (hdT L).1 = true
  · rw [if_pos c3] at he
    repeat (first | (refine acond_t (c3) ?_; conv => whnf))
    have hne : (hdT L).1 ≠ [] := fun e => by rw [e] at c3; exact absurd c3 (by decide)
    refine ACall.mono (next_at hS hne hs) ?_
    rintro R H (⟨k1, rfl, cs, rfl⟩ | ⟨k1, rfl, rfl, hS1⟩)
    · rw [nxt_bad k1] at he; subst he
      conv => whnf
      exact GhR.of ⟨rfl, cs, rfl⟩
    rw [nxt_ok k1] at he
    conv => whnf
    subst he
    exact GhR.frz 1 rfl (GhR.sel [0] rfl (GhR.of ⟨rfl, rfl, hS1⟩))
  rw [if_neg c3] at he
  repeat (first | (refine acond_f (Bool.eq_false_iff.2 c3) ?_; conv => whnf))
  refine ACall.frameH [] [] rfl (args' := []) (Hc := []) rfl rfl numbers_spec ?_
  rintro r0 H0 ⟨rfl, rfl⟩
  refine ⟨.inl rfl, [.c (pcl s (hdT L).2 (hdT L).1 o)], rfl, ?_⟩
  conv => whnf
  refine ACall.frameH [] [] rfl (args' := [.rs (strs numbersL) 0 1 numbersL.length, .s (sb (hdT L).1)]) (Hc := []) rfl rfl (contains_spec numbersL (hdT L).1 (by decide)) ?_
  rintro r0 H0 ⟨rfl, rfl⟩
  refine ⟨.inl rfl, [.c (pcl s (hdT L).2 (hdT L).1 o)], rfl, ?_⟩
  conv => whnf
  by_cases c4 : numbersL.contains (hdT L).1 = true
  · rw [if_pos c4] at he
    repeat (first | (refine acond_t (c4) ?_; conv => whnf))
    have hne : (hdT L).1 ≠ [] := fun e => by rw [e] at c4; exact absurd c4 (by decide)
    refine ACall.mono (next_at hS hne hs) ?_
    rintro R H (⟨k1, rfl, cs, rfl⟩ | ⟨k1, rfl, rfl, hS1⟩)
    · rw [nxt_bad k1] at he; subst he
      conv => whnf
      exact GhR.of ⟨rfl, cs, rfl⟩
    rw [nxt_ok k1] at he
    conv => whnf
    refine ACall.frameH [] [] rfl (args' := []) (Hc := []) rfl rfl ops_spec ?_
    rintro r0 H0 ⟨rfl, rfl⟩
    refine ⟨.inl rfl, [.c (pcl s (hdT L.tail).2 (hdT L.tail).1 o)], rfl, ?_⟩
    conv => whnf
    refine ACall.frameH [] [] rfl (args' := [.rs (strs opsL) 0 1 opsL.length, .s (sb (hdT L.tail).1)]) (Hc := []) rfl rfl (contains_spec opsL (hdT L.tail).1 (by decide)) ?_
    rintro r0 H0 ⟨rfl, rfl⟩
    refine ⟨.inl rfl, [.c (pcl s (hdT L.tail).2 (hdT L.tail).1 o)], rfl, ?_⟩
    conv => whnf
    by_cases c5 : opsL.contains (hdT L.tail).1 = true
    · rw [if_pos c5] at he
      have b5 : (!(opsL.contains (hdT L.tail).1)) = false := by rw [c5]; rfl
      repeat (first | (refine acond_f (b5) ?_; conv => whnf))
      have hne1 : (hdT L.tail).1 ≠ [] := fun e => by rw [e] at c5; exact absurd c5 (by decide)
      refine ACall.mono (next_at hS1 hne1 hs) ?_
      rintro R H (⟨k1, rfl, cs, rfl⟩ | ⟨k1, rfl, rfl, hS2⟩)
      · rw [nxt_bad k1] at he; subst he
        conv => whnf
        exact GhR.of ⟨rfl, cs, rfl⟩
      rw [nxt_ok k1] at he
      conv => whnf
      refine ACall.mono (number_spec hS2 hs) ?_
      rintro R H (⟨d1, rfl, cs, rfl⟩ | ⟨d1, d2, rfl, cs, rfl⟩ | ⟨d1, d2, d3, rfl, cs, rfl⟩ | ⟨d1, d2, d3, rfl, rfl, hS3⟩)
      · rw [pnum, if_pos d1] at he; subst he
        conv => whnf
        exact GhR.of ⟨rfl, cs, rfl⟩
      · rw [pnum, if_neg (by rw [d1]; decide), if_pos d2] at he; subst he
        conv => whnf
        exact GhR.of ⟨rfl, cs, rfl⟩
      · rw [pnum, if_neg (by rw [d1]; decide), if_neg d2, nxt_bad d3] at he; subst he
        conv => whnf
        exact GhR.of ⟨rfl, cs, rfl⟩
      · rw [pnum, if_neg (by rw [d1]; decide), if_neg d2, nxt_ok d3] at he; subst he
        conv => whnf
        exact GhR.frz 1 rfl (GhR.sel [0] rfl (GhR.of ⟨rfl, rfl, hS3⟩))
    · rw [if_neg c5] at he
      have b5 : (!(opsL.contains (hdT L.tail).1)) = true := by rw [Bool.eq_false_iff.2 c5]; rfl
      repeat (first | (refine acond_t (b5) ?_; conv => whnf))
      subst he
      refine ACall.mono (stop_spec s (hdT L.tail).1 (hdT L.tail).2 o 11) ?_; rintro r0 H0 ⟨rfl, rfl⟩
      conv => whnf
      exact GhR.of ⟨rfl, _, rfl⟩
  rw [if_neg c4] at he
  repeat (first | (refine acond_f (Bool.eq_false_iff.2 c4) ?_; conv => whnf))
  refine ACall.mono (run_spec s (hdT L).1 (hdT L).2 o (hdT L).2 97 122 (by omega) hS.hd.1) ?_; rintro r0 H0 ⟨rfl, rfl⟩
  conv => whnf
  have hwd := isWord_iff hS
  by_cases c5 : isWord (hdT L).1 = true
  · rw [c5] at hwd
    by_cases c6 : (hdT L).1 = wAnd
    · have b6 : (!((hdT L).1 == wAnd)) = false := by rw [c6]; rfl
      rw [if_neg (fun e => e.2.1 c6)] at he
      repeat (first | (refine acond_t (hwd) ?_; conv => whnf) | (refine acond_f (b6) ?_; conv => whnf))
      subst he
      refine ACall.mono (stop_spec s (hdT L).1 (hdT L).2 o 11) ?_; rintro r0 H0 ⟨rfl, rfl⟩
      conv => whnf
      exact GhR.of ⟨rfl, _, rfl⟩
    · have b6 : (!((hdT L).1 == wAnd)) = true := by simpa using c6
      by_cases c7 : (hdT L).1 = wOr
      · have b7 : (!((hdT L).1 == wOr)) = false := by rw [c7]; rfl
        rw [if_neg (fun e => e.2.2 c7)] at he
        repeat (first | (refine acond_t (hwd) ?_; conv => whnf) | (refine acond_t (b6) ?_; conv => whnf) | (refine acond_f (b7) ?_; conv => whnf))
        subst he
        refine ACall.mono (stop_spec s (hdT L).1 (hdT L).2 o 11) ?_; rintro r0 H0 ⟨rfl, rfl⟩
        conv => whnf
        exact GhR.of ⟨rfl, _, rfl⟩
      · have b7 : (!((hdT L).1 == wOr)) = true := by simpa using c7
        rw [if_pos ⟨c5, c6, c7⟩] at he
        repeat (first | (refine acond_t (hwd) ?_; conv => whnf) | (refine acond_t (b6) ?_; conv => whnf) | (refine acond_t (b7) ?_; conv => whnf))
        subst he
        refine ACall.mono (stop_spec s (hdT L).1 (hdT L).2 o 21) ?_; rintro r0 H0 ⟨rfl, rfl⟩
        conv => whnf
        exact GhR.of ⟨rfl, _, rfl⟩
  · rw [Bool.eq_false_iff.2 c5] at hwd
    rw [if_neg (fun e => c5 e.1)] at he
    repeat (first | (refine acond_f (hwd) ?_; conv => whnf))
    subst he
    refine ACall.mono (stop_spec s (hdT L).1 (hdT L).2 o 11) ?_; rintro r0 H0 ⟨rfl, rfl⟩
    conv => whnf
    exact GhR.of ⟨rfl, _, rfl⟩
end Go.AK
namespace Go.AK
open Go Go.RowKit Go.Proofs
set_option linter.unusedVariables false
set_option maxRecDepth 100000
theorem pp_all {s : Str} (hs : s.length ≤ 100000) : ∀ f : Nat, (∀ g, g ≤ f → Spec s 26 g .or) ∧ (∀ g, g ≤ f → Spec s 40 g .and) ∧
    (∀ g, g ≤ f → Spec s 51 g .not) ∧ (∀ g, g ≤ f → Spec s 60 g .opd)
  | 0 => by
    refine ⟨?_, ?_, ?_, ?_⟩ <;> (intro g hg; cases Nat.le_zero.1 hg; intro o L _ _ h; exact absurd rfl h)
  | f + 1 => by
    obtain ⟨h1, h2, h3, h4⟩ := pp_all hs f
    have k1 := or_step hs h2
    have k2 := and_step hs h3
    have k3 := not_step hs (h3 f (Nat.le_refl _)) (h4 f (Nat.le_refl _))
    have k4 := opd_step hs (h1 f (Nat.le_refl _))
    refine ⟨?_, ?_, ?_, ?_⟩ <;> intro g hg
    · by_cases e : g = f + 1
      · subst e; exact k1
      · exact h1 g (by omega)
    · by_cases e : g = f + 1
      · subst e; exact k2
      · exact h2 g (by omega)
    · by_cases e : g = f + 1
      · subst e; exact k3
      · exact h3 g (by omega)
    · by_cases e : g = f + 1
      · subst e; exact k4
      · exact h4 g (by omega)
/-! There is fuel enough. -/
def Md.need : Md → Nat → Nat
  | .opd, n => 6 * n + 1
  | .not, n => 6 * n + 2
  | .andL _, n => 6 * n + 2
  | .and, n => 6 * n + 3
  | .orL _, n => 6 * n + 3
  | .or, n => 6 * n + 4
/-- No longer row of tokens is left, and each node took one. -/
def Fine (n : Nat) (r : PR) : Prop := r ≠ .out ∧ ∀ x L, r = .ok x L → L.length + x.depth ≤ n
theorem Fine.err {n p : Nat} {e : Int} : Fine n (.err p e) := ⟨nofun, nofun⟩
theorem Fine.ok {n : Nat} {x : Ex} {L : List Tok} (h : L.length + x.depth ≤ n) : Fine n (.ok x L) := ⟨nofun, fun _ _ e => by cases e; exact h⟩
theorem Fine.bind {n n1 : Nat} {r : PR} {k : Ex → List Tok → PR} (h : Fine n1 r) (hk : ∀ x L, L.length + x.depth ≤ n1 → Fine n (k x L)) : Fine n (r.bind k) := by
  cases r with
  | out => exact absurd rfl h.1
  | err p e => exact Fine.err
  | ok x L => exact hk x L (h.2 x L rfl)
theorem Fine.nxt {n : Nat} {g : Bool} {L : List Tok} {k : List Tok → PR} (hk : Fine n (k L.tail)) : Fine n (nxt g L k) := by
  unfold AK.nxt
  split
  · exact Fine.err
  · exact hk
theorem Fine.mono {n m : Nat} {r : PR} (h : Fine n r) (hm : n ≤ m) : Fine m r := ⟨h.1, fun x L e => Nat.le_trans (h.2 x L e) hm⟩
theorem tok_tail {L : List Tok} (h : (hdT L).1 ≠ []) : L.tail.length + 1 = L.length := by
  cases L with
  | nil => exact absurd rfl h
  | cons t L => rfl
def Md.dep : Md → Nat
  | .orL x => x.depth
  | .andL x => x.depth
  | _ => 0
theorem depth_nd (k : Int) (w o : Str) (n : Int) (x y : Ex) : (Ex.nd k w o n x y).depth ≤ 1 + x.depth + y.depth := by
  simp only [Ex.depth]; omega
theorem pp_fine (g : Bool) : ∀ (f : Nat) (m : Md) (o : Nat) (L : List Tok), m.need L.length ≤ f → Fine (L.length + m.dep) (pp g f m o L)
  | 0, m, o, L, h => by cases m <;> simp only [Md.need] at h <;> omega
  | f + 1, .or, o, L, h => by
    simp only [Md.need] at h
    unfold pp
    refine Fine.bind (pp_fine g f .and o L (by simp only [Md.need]; omega)) fun x L' hl => ?_
    simp only [Md.dep] at hl ⊢
    exact (pp_fine g f (.orL x) o L' (by simp only [Md.need]; omega)).mono (by simp only [Md.dep]; omega)
  | f + 1, .orL x, o, L, h => by
    simp only [Md.need] at h
    unfold pp
    split
    · rename_i hw
      have ht := tok_tail (L := L) (by rw [hw]; decide)
      refine Fine.nxt ?_
      refine Fine.bind (pp_fine g f .and o _ (by simp only [Md.need]; omega)) fun y L' hl => ?_
      have := depth_nd 3 [] [] 0 x y
      simp only [Md.dep] at hl ⊢
      exact (pp_fine g f (.orL _) o L' (by simp only [Md.need]; omega)).mono (by simp only [Md.dep]; omega)
    · exact Fine.ok (Nat.le_refl _)
  | f + 1, .and, o, L, h => by
    simp only [Md.need] at h
    unfold pp
    refine Fine.bind (pp_fine g f .not o L (by simp only [Md.need]; omega)) fun x L' hl => ?_
    simp only [Md.dep] at hl ⊢
    exact (pp_fine g f (.andL x) o L' (by simp only [Md.need]; omega)).mono (by simp only [Md.dep]; omega)
  | f + 1, .andL x, o, L, h => by
    simp only [Md.need] at h
    unfold pp
    split
    · rename_i hw
      have ht := tok_tail (L := L) (by rw [hw]; decide)
      refine Fine.nxt ?_
      refine Fine.bind (pp_fine g f .not o _ (by simp only [Md.need]; omega)) fun y L' hl => ?_
      have := depth_nd 2 [] [] 0 x y
      simp only [Md.dep] at hl ⊢
      exact (pp_fine g f (.andL _) o L' (by simp only [Md.need]; omega)).mono (by simp only [Md.dep]; omega)
    · exact Fine.ok (Nat.le_refl _)
  | f + 1, .not, o, L, h => by
    simp only [Md.need] at h
    unfold pp
    split
    · rename_i hw
      have ht := tok_tail (L := L) (by rw [hw]; decide)
      refine Fine.nxt ?_
      refine Fine.bind (pp_fine g f .not o _ (by simp only [Md.need]; omega)) fun y L' hl => Fine.ok ?_
      have := depth_nd 1 [] [] 0 y .nil
      simp only [Md.dep, Ex.depth] at hl this ⊢
      omega
    · exact pp_fine g f .opd o L (by simp only [Md.need]; omega)
  | f + 1, .opd, o, L, h => by
    simp only [Md.need] at h
    unfold pp
    split
    · rename_i hw
      have ht := tok_tail (L := L) (by rw [hw]; decide)
      split
      · exact Fine.err
      refine Fine.nxt ?_
      refine Fine.bind (pp_fine g f .or (o + 1) _ (by simp only [Md.need]; omega)) fun y L' hl => ?_
      simp only [Md.dep] at hl ⊢
      split
      · rename_i hw'
        have ht' := tok_tail (L := L') (by rw [hw']; decide)
        exact Fine.nxt (Fine.ok (by omega))
      · exact Fine.err
    split
    · rename_i hw
      have ht := tok_tail (L := L) (by rcases hw with e | e <;> rw [e] <;> decide)
      exact Fine.nxt (Fine.ok (by simp only [Md.dep, Ex.depth]; omega))
    split
    · rename_i hw
      have ht := tok_tail (L := L) (fun e => by rw [e] at hw; exact absurd hw (by decide))
      exact Fine.nxt (Fine.ok (by simp only [Md.dep, Ex.depth]; omega))
    split
    · rename_i hw
      have ht := tok_tail (L := L) (fun e => by rw [e] at hw; exact absurd hw (by decide))
      refine Fine.nxt ?_
      split
      · refine Fine.nxt ?_
        unfold pnum
        split
        · exact Fine.err
        split
        · exact Fine.err
        exact Fine.nxt (Fine.ok (by simp only [List.length_tail, Md.dep, Ex.depth] at ht ⊢; omega))
      · exact Fine.err
    split
    · exact Fine.err
    · exact Fine.err
theorem lex_len : ∀ (f : Nat) (r : Str) (p : Nat), r.length < f → (lex f r p).length ≤ r.length + 1
  | 0, _, _, h => by omega
  | f + 1, r, p, h => by
    unfold lex
    split
    · simp
    rename_i h0
    have hl : 0 < r.length := List.length_pos_iff.2 h0
    split
    · have := lex_len f r.tail (p + 1) (by rw [List.length_tail]; omega)
      rw [List.length_tail] at this
      omega
    split
    · simp
    · have hd : (r.drop (tokLen r)).length = r.length - tokLen r := List.length_drop
      have := lex_len f (r.drop (tokLen r)) (p + tokLen r) (by omega)
      rw [List.length_cons]; omega
theorem lexS_len (r : Str) (p : Nat) : (lexS r p).length ≤ r.length + 1 := lex_len _ _ _ (Nat.lt_succ_self _)
theorem parse_fine (g : Bool) (s : Str) (o : Nat) (L : List Tok) (h : L.length ≤ s.length + 1) : Fine (s.length + 1) (pp g (8 * s.length + 64) .or o L) :=
  (pp_fine g _ .or o L (by simp only [Md.need]; omega)).mono (by simp only [Md.dep]; omega)
end Go.AK
namespace Go.AK
open Go Go.RowKit Go.Proofs
set_option linter.unusedVariables false
set_option maxRecDepth 100000
abbrev capsP : List AV := [.p (some (0, 0)), .p (some (1, 0)), .p (some (2, 0))]
theorem catch_none (H : Heap) : ADefer Tryd.prog 24 capsP none H fun H' => H' = H := by
  refine ADefer.enter tok Tryd.func24 rfl rfl rfl rfl rfl ?_
  conv => whnf
theorem catch_some (a b c : AV) (cs : List AV) (p : Nat) (e : Int) : ADefer Tryd.prog 24 capsP (some (wrAV p e)) [.c [a], .c [b], .c [c], .c cs]
    fun H' => ∃ Y Z, H' = [.c [.p none], .c [.i .i64 p], .c [.i .i64 e], Z, Y] := by
  refine ADefer.enter tok Tryd.func24 rfl rfl rfl rfl rfl ?_
  conv => whnf
  refine ⟨Nat.le_of_ble_eq_true rfl, ?_⟩
  conv => whnf
  refine ADraw.gh (Gh.regs [4, 0, 1, 2] (Gh.frz 4 rfl (Gh.of ?_)))
  refine ADraw.ofS tok mixed false [1, 3] [0, 1, 2, 3] [4, 5, 6] (by kernel_rfl) (fun _ _ _ _ h => h) ?_
  conv => whnf
  refine ⟨Nat.le_of_ble_eq_true rfl, ?_⟩
  conv => whnf
  refine ⟨Nat.le_of_ble_eq_true rfl, ?_⟩
  conv => whnf
  refine ⟨Nat.le_of_ble_eq_true rfl, ?_⟩
  conv => whnf
  exact ⟨_, _, rfl⟩
theorem ADefer.mono {P : Program} {f : Nat} {caps : List AV} {pv : Option AV} {H : Heap} {K K' : Heap → Prop} (h : ADefer P f caps pv H K) (hk : ∀ H, K H → K' H) : ADefer P f caps pv H K' :=
  ⟨h.there, fun E w vs u hR hv hu => (h.run E w vs u hR hv hu).mono fun e u' w' ⟨k1, k2, E', H', k3, k4, k5⟩ => ⟨k1, k2, E', H', k3, k4, hk _ k5⟩⟩
theorem parse_spec (s : Str) (hs : s.length ≤ 10000) : ACall Tryd.prog 10 [.s (sb s)] [] fun R H => R = .ret (.tup [(parseE s).1.av, .i .i64 (parseE s).2.1, .i .i64 (parseE s).2.2]) ∧ H = [] := by
  refine ACall.gh ?_
  refine ACall.enterD tok Tryd.func10 rfl rfl rfl rfl ?_
  generalize hr : parseE s = r
  conv => whnf
  by_cases hl : ((sb s).size : Int) > 8192
  · repeat (first | (refine acond_t (decide_eq_true hl) ?_; conv => whnf))
    refine ⟨Nat.le_of_ble_eq_true rfl, ?_⟩
    conv => whnf
    refine ⟨Nat.le_of_ble_eq_true rfl, ?_⟩
    conv => whnf
    refine ⟨Nat.le_of_ble_eq_true rfl, ?_⟩
    conv => whnf
    rw [sb_size] at hl
    have : r = (.nil, 0, 12) := by rw [← hr, parseE, if_pos (by omega)]
    subst this
    exact GhR.sel [] rfl (GhR.of ⟨rfl, rfl⟩)
  · repeat (first | (refine acond_f (decide_eq_false hl) ?_; conv => whnf))
    rw [sb_size] at hl
    rw [parseE, if_neg (by omega)] at hr
    intro ds
    conv => whnf
    have hl2 := lexS_len s 0
    refine ACall.frameH [3] [] rfl (args' := [pAV]) (Hc := [.c (pcl s ((0 : Nat) : Int) [] ((0 : Nat) : Int))]) rfl rfl (next_spec s [] 0 ((0 : Nat) : Int) (by simp) (by omega)) ?_
    rintro R H (⟨k1, rfl, cs, rfl⟩ | ⟨k1, rfl, rfl, hS⟩)
    · refine ⟨.inl rfl, _, rfl, ?_⟩
      conv => whnf
      have : r = (.nil, (hdT (lexS s 0)).2, 11) := by rw [← hr, nxt_bad (L := ([], 0) :: lexS s 0) k1]; rfl
      subst this
      refine ADefer.mono (catch_some (.p none) (.i .i64 0) (.i .i64 0) _ _ _) ?_
      rintro H' ⟨Y, Z, rfl⟩
      conv => whnf
      exact GhR.sel [] rfl (GhR.of ⟨rfl, rfl⟩)
    replace hS : St s (lexS s 0) := hS
    rw [nxt_ok (L := ([], 0) :: lexS s 0) k1, List.tail_cons] at hr
    refine ⟨.inl rfl, [.c [.p none], .c [.i .i64 0], .c [.i .i64 0], .c (pcl s (hdT (lexS s 0)).2 (hdT (lexS s 0)).1 ((0 : Nat) : Int))], rfl, ?_⟩
    conv => whnf
    have hf := parse_fine true s 0 (lexS s 0) hl2
    have hor : ACall Tryd.prog 26 [.p (some (3, 0))] [.c [.p none], .c [.i .i64 0], .c [.i .i64 0], .c (pcl s (hdT (lexS s 0)).2 (hdT (lexS s 0)).1 ((0 : Nat) : Int))]
        fun R H => (∃ p e cs, pp true (8 * s.length + 64) .or 0 (lexS s 0) = .err p e ∧ R = .pan (wrAV p e) ∧ H = [.c [.p none], .c [.i .i64 0], .c [.i .i64 0], .c cs]) ∨
          (∃ x L', pp true (8 * s.length + 64) .or 0 (lexS s 0) = .ok x L' ∧ R = .ret x.av ∧ H = [.c [.p none], .c [.i .i64 0], .c [.i .i64 0], .c (pcl s (hdT L').2 (hdT L').1 ((0 : Nat) : Int))] ∧ St s L') := by
      refine ACall.frameH [3] [] rfl (args' := [pAV]) (Hc := [.c (pcl s (hdT (lexS s 0)).2 (hdT (lexS s 0)).1 ((0 : Nat) : Int))]) rfl rfl (((pp_all (by omega) _).1 _ (Nat.le_refl _)) 0 (lexS s 0) (by omega) hS hf.1) ?_
      intro R H hP
      rcases hP.cases with ⟨p, e, hq, rfl, cs, rfl⟩ | ⟨x, L', hq, rfl, rfl, hS'⟩
      · exact ⟨.inl rfl, _, rfl, .inl ⟨p, e, _, hq, rfl, rfl⟩⟩
      · exact ⟨.inl rfl, _, rfl, .inr ⟨x, L', hq, congrArg ARes.ret (sub_av _ x), rfl, hS'⟩⟩
    refine ACall.mono hor ?_
    rintro R H (⟨p, e, cs, hq, rfl, rfl⟩ | ⟨x, L', hq, rfl, rfl, hS'⟩)
    · conv => whnf
      have : r = (.nil, p, e) := by rw [← hr, hq]; rfl
      subst this
      refine ADefer.mono (catch_some (.p none) (.i .i64 0) (.i .i64 0) _ _ _) ?_
      rintro H' ⟨Y, Z, rfl⟩
      conv => whnf
      exact GhR.sel [] rfl (GhR.of ⟨rfl, rfl⟩)
    have hdx := hf.2 x L' hq
    replace hr : (if (hdT L').1 ≠ [] then (Ex.nil, (hdT L').2, (11 : Int)) else if 64 < x.depth then (.nil, 0, 12) else (x, 0, 0)) = r := by rw [← hr, hq]; rfl
    cases x with
    | nil =>
      conv => whnf
      refine ⟨Nat.le_of_ble_eq_true rfl, ?_⟩
      conv => whnf
      by_cases ht : (hdT L').1 = []
      · have b1 : (!((hdT L').1 == ([] : Str))) = false := by rw [ht]; rfl
        rw [if_neg (fun h => h ht)] at hr
        repeat (first | (refine acond_f (b1) ?_; conv => whnf))
        refine ACall.frameH [] [] rfl (args' := [Ex.av (.nil)]) (Hc := []) rfl rfl (depth_spec (.nil) (by omega)) ?_
        rintro r0 H0 ⟨rfl, rfl⟩
        refine ⟨.inl rfl, _, rfl, ?_⟩
        conv => whnf
        by_cases hd : ((Ex.depth (.nil) : Nat) : Int) > 64
        · exact absurd hd (by decide)
        · repeat (first | (refine acond_f (decide_eq_false hd) ?_; conv => whnf))
          refine ⟨Nat.le_of_ble_eq_true rfl, ?_⟩
          conv => whnf
          refine ⟨Nat.le_of_ble_eq_true rfl, ?_⟩
          conv => whnf
          refine ⟨Nat.le_of_ble_eq_true rfl, ?_⟩
          conv => whnf
          refine ADefer.mono (catch_none _) ?_
          rintro H' rfl
          conv => whnf
          rw [if_neg (by omega)] at hr
          subst hr
          refine GhR.sel [] rfl (GhR.of ⟨?_, rfl⟩)
          show ARes.ret (.tup [sub _ (Ex.av _), .i .i64 0, .i .i64 0]) = _
          rw [sub_av]; rfl
      · have b1 : (!((hdT L').1 == ([] : Str))) = true := by simpa using ht
        rw [if_pos ht] at hr
        subst hr
        repeat (first | (refine acond_t (b1) ?_; conv => whnf))
        refine ACall.frameH [3] [] rfl (args' := [pAV, .i .i64 11]) (Hc := [.c (pcl s (hdT L').2 (hdT L').1 ((0 : Nat) : Int))]) rfl rfl (stop_spec s (hdT L').1 (hdT L').2 ((0 : Nat) : Int) 11) ?_
        rintro r0 H0 ⟨rfl, rfl⟩
        refine ⟨.inl rfl, _, rfl, ?_⟩
        conv => whnf
        refine ADefer.mono (catch_some (.p none) (.i .i64 0) (.i .i64 0) _ (hdT L').2 11) ?_
        rintro H' ⟨Y, Z, rfl⟩
        conv => whnf
        exact GhR.sel [] rfl (GhR.of ⟨rfl, rfl⟩)
      
    | nd k w o n xl xr =>
      conv => whnf
      refine ⟨Nat.le_of_ble_eq_true rfl, ?_⟩
      conv => whnf
      by_cases ht : (hdT L').1 = []
      · have b1 : (!((hdT L').1 == ([] : Str))) = false := by rw [ht]; rfl
        rw [if_neg (fun h => h ht)] at hr
        repeat (first | (refine acond_f (b1) ?_; conv => whnf))
        refine ACall.frameH [] [] rfl (args' := [Ex.av (.nd k w o n xl xr)]) (Hc := []) (by show [sub _ (Ex.av (.nd k w o n xl xr))] = _; rw [sub_av]) rfl (depth_spec (.nd k w o n xl xr) (by omega)) ?_
        rintro r0 H0 ⟨rfl, rfl⟩
        refine ⟨.inl rfl, _, rfl, ?_⟩
        conv => whnf
        by_cases hd : ((Ex.depth (.nd k w o n xl xr) : Nat) : Int) > 64
        · repeat (first | (refine acond_t (decide_eq_true hd) ?_; conv => whnf))
          refine ⟨Nat.le_of_ble_eq_true rfl, ?_⟩
          conv => whnf
          refine ⟨Nat.le_of_ble_eq_true rfl, ?_⟩
          conv => whnf
          refine ⟨Nat.le_of_ble_eq_true rfl, ?_⟩
          conv => whnf
          refine ADefer.mono (catch_none _) ?_
          rintro H' rfl
          conv => whnf
          rw [if_pos (by omega)] at hr
          subst hr
          exact GhR.sel [] rfl (GhR.of ⟨rfl, rfl⟩)
        · repeat (first | (refine acond_f (decide_eq_false hd) ?_; conv => whnf))
          refine ⟨Nat.le_of_ble_eq_true rfl, ?_⟩
          conv => whnf
          refine ⟨Nat.le_of_ble_eq_true rfl, ?_⟩
          conv => whnf
          refine ⟨Nat.le_of_ble_eq_true rfl, ?_⟩
          conv => whnf
          refine ADefer.mono (catch_none _) ?_
          rintro H' rfl
          conv => whnf
          rw [if_neg (by omega)] at hr
          subst hr
          refine GhR.sel [] rfl (GhR.of ⟨?_, rfl⟩)
          show ARes.ret (.tup [sub _ (Ex.av _), .i .i64 0, .i .i64 0]) = _
          rw [sub_av]; rfl
      · have b1 : (!((hdT L').1 == ([] : Str))) = true := by simpa using ht
        rw [if_pos ht] at hr
        subst hr
        repeat (first | (refine acond_t (b1) ?_; conv => whnf))
        refine ACall.frameH [3] [] rfl (args' := [pAV, .i .i64 11]) (Hc := [.c (pcl s (hdT L').2 (hdT L').1 ((0 : Nat) : Int))]) rfl rfl (stop_spec s (hdT L').1 (hdT L').2 ((0 : Nat) : Int) 11) ?_
        rintro r0 H0 ⟨rfl, rfl⟩
        refine ⟨.inl rfl, _, rfl, ?_⟩
        conv => whnf
        refine ADefer.mono (catch_some _ (.i .i64 0) (.i .i64 0) _ (hdT L').2 11) ?_
        rintro H' ⟨Y, Z, rfl⟩
        conv => whnf
        exact GhR.sel [] rfl (GhR.of ⟨rfl, rfl⟩)
      
end Go.AK
namespace Go.AK
open Go Go.RowKit Go.Proofs
set_option linter.unusedVariables false
set_option maxRecDepth 100000
/-- A row of tokens, as cells. -/
def toks (T : List Tok) : List AV := T.flatMap fun t => [.s (sb t.1), .i .i64 t.2]
theorem toks_length : ∀ T : List Tok, (toks T).length = T.length * 2
  | [] => rfl
  | t :: T => by
    have := toks_length T
    simp only [toks, List.flatMap_cons, List.length_append, List.length_cons] at this ⊢
    rw [this]; simp only [List.length_nil]; omega
theorem toks_append (A B : List Tok) : toks (A ++ B) = toks A ++ toks B := by simp [toks]
theorem toks_get : ∀ (T : List Tok) (i j : Nat) (h : i < T.length), j < 2 → (toks T)[i * 2 + j]? = [AV.s (sb T[i].1), .i .i64 T[i].2][j]?
  | t :: T, 0, j, h, hj => by
    simp only [toks, List.flatMap_cons, Nat.zero_mul, Nat.zero_add, List.getElem_cons_zero]
    rw [List.getElem?_append_left (by simpa using hj)]
  | t :: T, i + 1, j, h, hj => by
    have := toks_get T i j (by simpa using h) hj
    simp only [toks, List.flatMap_cons, List.getElem_cons_succ] at this ⊢
    rw [List.getElem?_append_right (by simp only [List.length_cons, List.length_nil]; omega), ← this]
    congr 1
    simp only [List.length_cons, List.length_nil]; omega
theorem aget_tok0 {T : List Tok} {i o : Nat} (ho : o = i * 2) (h : i < T.length) {K : AV → Prop} (hk : K (.s (sb T[i].1))) : aget (toks T) o K := by
  subst ho
  unfold aget
  rw [show i * 2 = i * 2 + 0 from rfl, toks_get T i 0 h (by omega)]
  exact hk
theorem aget_tok1 {T : List Tok} {i o : Nat} (ho : o = i * 2 + 1) (h : i < T.length) {K : AV → Prop} (hk : K (.i .i64 T[i].2)) : aget (toks T) o K := by
  subst ho
  unfold aget
  rw [toks_get T i 1 h (by omega)]
  exact hk
theorem subs_toks (φ : Nat → Sb) : ∀ T : List Tok, subs φ (toks T) = toks T
  | [] => rfl
  | t :: T => by
    have := subs_toks φ T
    simp only [toks, List.flatMap_cons, List.cons_append, List.nil_append, subs, sub] at this ⊢
    rw [this]
theorem ones_toks : ∀ T : List Tok, ones (toks T) = true
  | [] => rfl
  | t :: T => by
    have := ones_toks T
    simp only [toks, List.flatMap_cons, List.cons_append, List.nil_append, ones, AV.one, Bool.true_and] at this ⊢
    exact this
def par4 : List Str := [[60], [62], [40], [41]]
theorem opLen2 (c d : UInt8) (r : Str) : opLen (c :: d :: r) = if opsL.contains [c, d] = true then 2 else if par4.contains [c] = true then 1 else 0 := by
  have hp : ∀ a b : UInt8, ([a, b] : Str).isPrefixOf (c :: d :: r) = ((a == c) && (b == d)) := fun a b => by simp [List.isPrefixOf]
  have hp1 : ∀ a : UInt8, ([a] : Str).isPrefixOf (c :: d :: r) = (a == c) := fun a => by simp [List.isPrefixOf]
  have hq : ∀ a b : UInt8, (([c, d] : Str) == [a, b]) = ((a == c) && (b == d)) := fun a b => by
    rw [Bool.eq_iff_iff, beq_iff_eq, Bool.and_eq_true, beq_iff_eq, beq_iff_eq]
    constructor
    · intro h; cases h; exact ⟨rfl, rfl⟩
    · rintro ⟨rfl, rfl⟩; rfl
  have hq1 : ∀ a : UInt8, (([c, d] : Str) == [a]) = false := fun a => beq_eq_false_iff_ne.2 (by intro h; cases h)
  have hq2 : ∀ a : UInt8, (([c] : Str) == [a]) = (a == c) := fun a => by
    rw [Bool.eq_iff_iff, beq_iff_eq, beq_iff_eq]
    constructor
    · intro h; cases h; rfl
    · rintro rfl; rfl
  unfold opLen opsP opsL par4
  simp only [List.cons_append, List.nil_append, List.foldl_cons, List.foldl_nil, opStep, hp, hp1, List.length_cons, List.length_nil, List.contains_cons, List.contains_nil, hq, hq1, hq2, Bool.or_false]
  obtain ⟨b1, eb1⟩ : ∃ b, ((61 : UInt8) == c) = b := ⟨_, rfl⟩
  obtain ⟨b2, eb2⟩ : ∃ b, ((33 : UInt8) == c) = b := ⟨_, rfl⟩
  obtain ⟨b3, eb3⟩ : ∃ b, ((60 : UInt8) == c) = b := ⟨_, rfl⟩
  obtain ⟨b4, eb4⟩ : ∃ b, ((62 : UInt8) == c) = b := ⟨_, rfl⟩
  obtain ⟨b5, eb5⟩ : ∃ b, ((40 : UInt8) == c) = b := ⟨_, rfl⟩
  obtain ⟨b6, eb6⟩ : ∃ b, ((41 : UInt8) == c) = b := ⟨_, rfl⟩
  obtain ⟨b7, eb7⟩ : ∃ b, ((61 : UInt8) == d) = b := ⟨_, rfl⟩
  simp only [eb1, eb2, eb3, eb4, eb5, eb6, eb7]
  clear eb1 eb2 eb3 eb4 eb5 eb6 eb7 hp hp1 hq2 hq hq1
  revert b1 b2 b3 b4 b5 b6 b7
  decide
theorem opLen1 (c : UInt8) : opLen [c] = if par4.contains [c] = true then 1 else 0 := by
  have hp : ∀ a b : UInt8, ([a, b] : Str).isPrefixOf [c] = false := fun a b => by simp [List.isPrefixOf]
  have hp1 : ∀ a : UInt8, ([a] : Str).isPrefixOf [c] = (a == c) := fun a => by simp [List.isPrefixOf]
  have hq2 : ∀ a : UInt8, (([c] : Str) == [a]) = (a == c) := fun a => by
    rw [Bool.eq_iff_iff, beq_iff_eq, beq_iff_eq]
    constructor
    · intro h; cases h; rfl
    · rintro rfl; rfl
  unfold opLen opsP opsL par4
  simp only [List.cons_append, List.nil_append, List.foldl_cons, List.foldl_nil, opStep, hp, hp1, List.length_cons, List.length_nil, List.contains_cons, List.contains_nil, hq2, Bool.or_false]
  obtain ⟨b3, eb3⟩ : ∃ b, ((60 : UInt8) == c) = b := ⟨_, rfl⟩
  obtain ⟨b4, eb4⟩ : ∃ b, ((62 : UInt8) == c) = b := ⟨_, rfl⟩
  obtain ⟨b5, eb5⟩ : ∃ b, ((40 : UInt8) == c) = b := ⟨_, rfl⟩
  obtain ⟨b6, eb6⟩ : ∃ b, ((41 : UInt8) == c) = b := ⟨_, rfl⟩
  simp only [eb3, eb4, eb5, eb6]
  clear eb3 eb4 eb5 eb6 hp hp1 hq2
  revert b3 b4 b5 b6
  decide
theorem opLen_eq (r : Str) (h : r ≠ []) : opLen r = if 1 < r.length ∧ opsL.contains (r.take 2) = true then 2 else if par4.contains (r.take 1) = true then 1 else 0 := by
  match r, h with
  | [c], _ =>
    rw [opLen1]
    have : ¬ (1 < ([c] : Str).length ∧ opsL.contains (([c] : Str).take 2) = true) := fun e => absurd e.1 (by simp)
    rw [if_neg this]; rfl
  | c :: d :: r, _ =>
    rw [opLen2]
    show _ = if 1 < (c :: d :: r).length ∧ opsL.contains [c, d] = true then 2 else if par4.contains [c] = true then 1 else 0
    by_cases h2 : opsL.contains [c, d] = true
    · rw [if_pos h2, if_pos ⟨by simp, h2⟩]
    · rw [if_neg h2, if_neg (show ¬ (1 < (c :: d :: r).length ∧ opsL.contains [c, d] = true) from fun e => h2 e.2)]
theorem toks_push (out : List Tok) (t : Str) (p : Nat) : ((toks out).drop 0).take (out.length * 2) ++ [.s (sb t), .i .i64 p] = toks (out ++ [(t, p)]) := by
  rw [List.drop_zero, List.take_of_length_le (by rw [toks_length]; omega), toks_append]; rfl
theorem loop1 {lo hi i j : Nat} {s : Str} (hs : s.length ≤ 10000) (hi' : i < s.length) (hj : j ≤ runB lo hi (s.drop i)) :
    (i + j < s.length ∧ (lo : Int) ≤ ((s.getD (i + j) 0).toNat : Int) ∧ ((s.getD (i + j) 0).toNat : Int) ≤ (hi : Int) ∧ j + 1 ≤ runB lo hi (s.drop i)) ∨
    (j = runB lo hi (s.drop i) ∧ ¬ (i + j < s.length ∧ (lo : Int) ≤ ((s.getD (i + j) 0).toNat : Int) ∧ ((s.getD (i + j) 0).toNat : Int) ≤ (hi : Int))) := by
  have h := runB_step lo hi (s.drop i) j hj
  have hgd : (s.drop i).getD j 0 = s.getD (i + j) 0 := by simp [List.getD_eq_getElem?_getD]
  rw [hgd, List.length_drop] at h
  omega
theorem tokens_spec (s : Str) (hs : s.length ≤ 10000) :
    ACall Tryd.prog 28 [.s (sb s)] [] fun R H => R = .ret (.rs (toks (lexS s 0)) 0 2 (lexS s 0).length) ∧ H = [] := by
  refine ACall.gh ?_
  refine ACall.enter tok false Tryd.func28 rfl rfl rfl (AW_sound (ip := false) tok _ _ _ _ ?_)
  conv => whnf
  refine ALoop.ind (ip := false) tok (fun m r H => ∃ (i : Nat) (out : List Tok) (c : Nat), i ≤ s.length ∧ m = s.length - i ∧ out ++ lexS (s.drop i) i = lexS s 0 ∧ out.length ≤ c ∧ out.length ≤ i ∧ H = [.c (toks out)] ∧
    r = [(0, .s (sb s)), (2, .sl none 0 0 0), (3, .sl (some (0, 0)) 2 out.length c), (4, .i .i64 i)]) s.length ?_ ?_
  · exact Gh.regs [0, 2, 3, 4] (Gh.of ⟨0, [], 0, by omega, rfl, rfl, Nat.le_refl _, Nat.le_refl _, rfl, rfl⟩)
  · rintro m r H ⟨i, out, c, hi, rfl, hout, hc, hoi, rfl, rfl⟩
    conv => whnf
    by_cases h : (i : Int) < ((sb s).size : Nat)
    · have hil : i < s.length := by rw [sb_size] at h; omega
      repeat (first | (refine acond_t (decide_eq_true h) ?_; conv => whnf))
      refine ⟨⟨by omega, h⟩, ?_⟩
      conv => whnf
      have hne : s.drop i ≠ [] := fun e => by have := congrArg List.length e; rw [List.length_drop] at this; simp at this; omega
      have hhd : (s.drop i).head? = some (s.getD i 0) := by rw [List.head?_drop, List.getD_eq_getElem?_getD, List.getElem?_eq_getElem hil]; rfl
      have hrb := runB_le 97 122 (s.drop i)
      have hrd := runB_le 48 57 (s.drop i)
      rw [List.length_drop] at hrb hrd
      by_cases hb : (((s.getD i 0).toNat : Nat) : Int) = 32
      · have b1 : (((((sb s).data.toList.getD ((i : Nat) : Int).toNat 0).toNat : Nat) : Int) == 32) = true := by rw [beq_iff_eq]; exact hb
        repeat (first | (refine acond_t (b1) ?_; conv => whnf))
        have hb' : s.getD i 0 = 32 := UInt8.toNat_inj.1 (by show _ = 32; omega)
        refine Gh.regs [0, 2, 3, 4] (Gh.of ⟨s.length - (i + 1), by omega, i + 1, out, c, by omega, rfl, ?_, hc, by omega, rfl, ?_⟩)
        · rw [← hout, List.drop_eq_getElem_cons hil]
          rw [show s[i] = 32 from by rw [← hb', List.getD_eq_getElem?_getD, List.getElem?_eq_getElem hil]; rfl, lexS_blank]
        · refine congrArg (fun z => [_, _, _, (4, AV.i IntKind.i64 z)]) ?_
          rw [IntKind.wrap_i64]; omega
      have b1 : (((((sb s).data.toList.getD ((i : Nat) : Int).toNat 0).toNat : Nat) : Int) == 32) = false := by rw [beq_eq_false_iff_ne]; exact hb
      have hhd0 : (s.drop i).head? ≠ some 32 := by
        rw [hhd]; intro e; apply hb; rw [Option.some.inj e]; rfl
      repeat (first | (refine acond_f (b1) ?_; conv => whnf))
      refine ALoop.post (i := 2) (fun r H => H = [.c (toks out)] ∧ keepR [0, 2, 3, 4, 5] r = [(0, .s (sb s)), (2, .sl none 0 0 0), (3, .sl (some (0, 0)) 2 out.length c), (4, .i .i64 i), (5, .i .i64 ((i + runB 97 122 (s.drop i) : Nat) : Int))]) ?_ ?_
      · refine ALoop.ind (ip := false) tok (fun m r H => ∃ (j : Nat), j ≤ runB 97 122 (s.drop i) ∧ m = runB 97 122 (s.drop i) - j ∧ H = [.c (toks out)] ∧
          r = [(0, .s (sb s)), (2, .sl none 0 0 0), (3, .sl (some (0, 0)) 2 out.length c), (4, .i .i64 i), (5, .i .i64 ((i + j : Nat) : Int))]) (runB 97 122 (s.drop i)) ?_ ?_
        · exact Gh.regs [0, 2, 3, 4, 5] (Gh.of ⟨0, by omega, by omega, rfl, rfl⟩)
        rintro m r H ⟨j, hj, rfl, rfl, rfl⟩
        have hw : IntKind.i64.wrap (((i + j : Nat) : Int) + 1) = ((i + (j + 1) : Nat) : Int) := by rw [IntKind.wrap_i64]; omega
        rcases loop1 hs hil hj with ⟨l1, l2, l3, l4⟩ | ⟨l1, l2⟩
        · conv => whnf
          have d1 : ((i + j : Nat) : Int) < ((sb s).size : Nat) := by rw [sb_size]; omega
          repeat (first | (refine acond_t (decide_eq_true d1) ?_; conv => whnf))
          refine ⟨⟨by omega, d1⟩, ?_⟩
          conv => whnf
          repeat (first | (refine acond_t (decide_eq_true d1) ?_; conv => whnf) | (refine acond_t (decide_eq_true l2) ?_; conv => whnf))
          refine ⟨⟨by omega, d1⟩, ?_⟩
          conv => whnf
          repeat (first | (refine acond_t (decide_eq_true d1) ?_; conv => whnf) | (refine acond_t (decide_eq_true l2) ?_; conv => whnf) | (refine acond_t (decide_eq_true l3) ?_; conv => whnf))
          refine Gh.regs [0, 2, 3, 4, 5] (Gh.of ⟨runB 97 122 (s.drop i) - (j + 1), by omega, j + 1, l4, rfl, rfl, ?_⟩)
          exact congrArg (fun z => [_, _, _, _, (5, AV.i IntKind.i64 z)]) hw
        · conv => whnf
          subst l1
          by_cases d1 : ((i + runB 97 122 (s.drop i) : Nat) : Int) < ((sb s).size : Nat)
          · repeat (first | (refine acond_t (decide_eq_true d1) ?_; conv => whnf))
            refine ⟨⟨by omega, d1⟩, ?_⟩
            conv => whnf
            by_cases d2 : (97 : Int) ≤ ((s.getD (i + runB 97 122 (s.drop i)) 0).toNat : Int)
            · repeat (first | (refine acond_t (decide_eq_true d1) ?_; conv => whnf) | (refine acond_t (decide_eq_true d2) ?_; conv => whnf))
              refine ⟨⟨by omega, d1⟩, ?_⟩
              conv => whnf
              have d3 : ¬ ((s.getD (i + runB 97 122 (s.drop i)) 0).toNat : Int) ≤ (122 : Int) := by
                rw [sb_size] at d1; omega
              repeat (first | (refine acond_t (decide_eq_true d1) ?_; conv => whnf) | (refine acond_t (decide_eq_true d2) ?_; conv => whnf) | (refine acond_f (decide_eq_false d3) ?_; conv => whnf))
              exact ⟨rfl, rfl, rfl⟩
            · repeat (first | (refine acond_t (decide_eq_true d1) ?_; conv => whnf) | (refine acond_f (decide_eq_false d2) ?_; conv => whnf))
              exact ⟨rfl, rfl, rfl⟩
          · repeat (first | (refine acond_f (decide_eq_false d1) ?_; conv => whnf))
            exact ⟨rfl, rfl, rfl⟩
      rintro r H ⟨rfl, hr⟩
      refine Gh.regs [0, 2, 3, 4, 5] (Gh.of ?_)
      rw [hr]
      conv => whnf
      by_cases hA : 0 < runB 97 122 (s.drop i)
      · have htk : tokLen (s.drop i) = i + runB 97 122 (s.drop i) - i := by unfold tokLen; rw [if_pos hA]; omega
        have hk : ((((i + runB 97 122 (s.drop i) : Nat)) : Int) == (i : Int)) = false := by rw [beq_eq_false_iff_ne]; omega
        repeat (first | (refine acond_f (hk) ?_; conv => whnf))
        refine ADraw.of tok mixed false [0, 1, 2, 3, 4, 5, 6, 7, 8, 9, 10, 12, 13, 14, 15, 16] [11, 17, 18] (by kernel_rfl) (fun _ _ _ _ h => h) ?_
        conv => whnf
        repeat (first | (refine acond_f (hk) ?_; conv => whnf))
        refine ⟨⟨by omega, by omega, by rw [sb_size]; omega⟩, ?_⟩
        conv => whnf
        refine ⟨by show 0 + out.length * 2 ≤ _; rw [toks_length]; omega, ?_⟩
        conv => whnf
        refine ⟨Nat.le_of_ble_eq_true rfl, ?_⟩
        conv => whnf
        refine ⟨rfl, ?_, ?_, ?_⟩
        · show (out.length + 1) * 2 * 24 ≤ _; omega
        · show (out.length + 1) * 2 ≤ _; omega
        intro c' hc'
        conv => whnf
        refine Gh.regs [0, 2, 3, 4] (Gh.sel [2] rfl (Gh.of ⟨s.length - (i + runB 97 122 (s.drop i)), by omega, i + runB 97 122 (s.drop i), out ++ [((s.drop i).take (tokLen (s.drop i)), i)], c', by omega, rfl, ?_, ?_, ?_, ?_, ?_⟩))
        · rw [← hout, List.append_assoc, lexS_tok hne hhd0 (by omega), List.drop_drop, htk, show i + (i + runB 97 122 (s.drop i) - i) = i + runB 97 122 (s.drop i) from by omega]; rfl
        · rw [List.length_append]; exact hc'
        · rw [List.length_append, List.length_singleton]; omega
        · show [Blk.c (subs _ (((toks out).drop 0).take (out.length * 2) ++ [.s ((sb s).extract i (i + runB 97 122 (s.drop i))), .i .i64 i]))] = _
          rw [sb_extract, ← htk, toks_push, subs_toks]
        · show [(0, _), (2, _), (3, AV.sl (some (0, 0)) 2 (out.length + 1) c'), (4, _)] = _
          rw [List.length_append]; rfl
      have hA0 : runB 97 122 (s.drop i) = 0 := by omega
      have hk : ((((i + runB 97 122 (s.drop i) : Nat)) : Int) == (i : Int)) = true := by rw [hA0]; simp
      repeat (first | (refine acond_t (hk) ?_; conv => whnf))
      refine ALoop.post (i := 4) (fun r H => H = [.c (toks out)] ∧ keepR [0, 2, 3, 4, 5] r = [(0, .s (sb s)), (2, .sl none 0 0 0), (3, .sl (some (0, 0)) 2 out.length c), (4, .i .i64 i), (5, .i .i64 ((i + runB 48 57 (s.drop i) : Nat) : Int))]) ?_ ?_
      · refine ALoop.ind (ip := false) tok (fun m r H => ∃ (j : Nat), j ≤ runB 48 57 (s.drop i) ∧ m = runB 48 57 (s.drop i) - j ∧ H = [.c (toks out)] ∧
          r = [(0, .s (sb s)), (2, .sl none 0 0 0), (3, .sl (some (0, 0)) 2 out.length c), (4, .i .i64 i), (5, .i .i64 ((i + j : Nat) : Int))]) (runB 48 57 (s.drop i)) ?_ ?_
        · exact Gh.regs [0, 2, 3, 4, 5] (Gh.of ⟨0, by omega, by omega, rfl, (by show [_, _, _, _, (5, AV.i IntKind.i64 _)] = _; rw [hA0])⟩)
        rintro m r H ⟨j, hj, rfl, rfl, rfl⟩
        have hw : IntKind.i64.wrap (((i + j : Nat) : Int) + 1) = ((i + (j + 1) : Nat) : Int) := by rw [IntKind.wrap_i64]; omega
        rcases loop1 hs hil hj with ⟨l1, l2, l3, l4⟩ | ⟨l1, l2⟩
        · conv => whnf
          have d1 : ((i + j : Nat) : Int) < ((sb s).size : Nat) := by rw [sb_size]; omega
          repeat (first | (refine acond_t (decide_eq_true d1) ?_; conv => whnf))
          refine ⟨⟨by omega, d1⟩, ?_⟩
          conv => whnf
          repeat (first | (refine acond_t (decide_eq_true d1) ?_; conv => whnf) | (refine acond_t (decide_eq_true l2) ?_; conv => whnf))
          refine ⟨⟨by omega, d1⟩, ?_⟩
          conv => whnf
          repeat (first | (refine acond_t (decide_eq_true d1) ?_; conv => whnf) | (refine acond_t (decide_eq_true l2) ?_; conv => whnf) | (refine acond_t (decide_eq_true l3) ?_; conv => whnf))
          refine Gh.regs [0, 2, 3, 4, 5] (Gh.of ⟨runB 48 57 (s.drop i) - (j + 1), by omega, j + 1, l4, rfl, rfl, ?_⟩)
          exact congrArg (fun z => [_, _, _, _, (5, AV.i IntKind.i64 z)]) hw
        · conv => whnf
          subst l1
          by_cases d1 : ((i + runB 48 57 (s.drop i) : Nat) : Int) < ((sb s).size : Nat)
          · repeat (first | (refine acond_t (decide_eq_true d1) ?_; conv => whnf))
            refine ⟨⟨by omega, d1⟩, ?_⟩
            conv => whnf
            by_cases d2 : (48 : Int) ≤ ((s.getD (i + runB 48 57 (s.drop i)) 0).toNat : Int)
            · repeat (first | (refine acond_t (decide_eq_true d1) ?_; conv => whnf) | (refine acond_t (decide_eq_true d2) ?_; conv => whnf))
              refine ⟨⟨by omega, d1⟩, ?_⟩
              conv => whnf
              have d3 : ¬ ((s.getD (i + runB 48 57 (s.drop i)) 0).toNat : Int) ≤ (57 : Int) := by
                rw [sb_size] at d1; omega
              repeat (first | (refine acond_t (decide_eq_true d1) ?_; conv => whnf) | (refine acond_t (decide_eq_true d2) ?_; conv => whnf) | (refine acond_f (decide_eq_false d3) ?_; conv => whnf))
              exact ⟨rfl, rfl, rfl⟩
            · repeat (first | (refine acond_t (decide_eq_true d1) ?_; conv => whnf) | (refine acond_f (decide_eq_false d2) ?_; conv => whnf))
              exact ⟨rfl, rfl, rfl⟩
          · repeat (first | (refine acond_f (decide_eq_false d1) ?_; conv => whnf))
            exact ⟨rfl, rfl, rfl⟩
      rintro r H ⟨rfl, hr⟩
      refine Gh.regs [0, 2, 3, 4, 5] (Gh.of ?_)
      rw [hr]
      conv => whnf
      by_cases hB : 0 < runB 48 57 (s.drop i)
      · have htk : tokLen (s.drop i) = i + runB 48 57 (s.drop i) - i := by rw [tok_dig hB]; omega
        have hk : ((((i + runB 48 57 (s.drop i) : Nat)) : Int) == (i : Int)) = false := by rw [beq_eq_false_iff_ne]; omega
        refine ADraw.of tok mixed false [0, 1, 2, 3, 4, 5, 6, 7, 8, 9, 10, 12, 13, 14, 15, 16] [11, 17, 18] (by kernel_rfl) (fun _ _ _ _ h => h) ?_
        conv => whnf
        repeat (first | (refine acond_f (hk) ?_; conv => whnf))
        refine ⟨⟨by omega, by omega, by rw [sb_size]; omega⟩, ?_⟩
        conv => whnf
        refine ⟨by show 0 + out.length * 2 ≤ _; rw [toks_length]; omega, ?_⟩
        conv => whnf
        refine ⟨Nat.le_of_ble_eq_true rfl, ?_⟩
        conv => whnf
        refine ⟨rfl, ?_, ?_, ?_⟩
        · show (out.length + 1) * 2 * 24 ≤ _; omega
        · show (out.length + 1) * 2 ≤ _; omega
        intro c' hc'
        conv => whnf
        refine Gh.regs [0, 2, 3, 4] (Gh.sel [2] rfl (Gh.of ⟨s.length - (i + runB 48 57 (s.drop i)), by omega, i + runB 48 57 (s.drop i), out ++ [((s.drop i).take (tokLen (s.drop i)), i)], c', by omega, rfl, ?_, ?_, ?_, ?_, ?_⟩))
        · rw [← hout, List.append_assoc, lexS_tok hne hhd0 (by omega), List.drop_drop, htk, show i + (i + runB 48 57 (s.drop i) - i) = i + runB 48 57 (s.drop i) from by omega]; rfl
        · rw [List.length_append]; exact hc'
        · rw [List.length_append, List.length_singleton]; omega
        · show [Blk.c (subs _ (((toks out).drop 0).take (out.length * 2) ++ [.s ((sb s).extract i (i + runB 48 57 (s.drop i))), .i .i64 i]))] = _
          rw [sb_extract, ← htk, toks_push, subs_toks]
        · show [(0, _), (2, _), (3, AV.sl (some (0, 0)) 2 (out.length + 1) c'), (4, _)] = _
          rw [List.length_append]; rfl
      have hB0 : runB 48 57 (s.drop i) = 0 := by omega
      have hk : ((((i + runB 48 57 (s.drop i) : Nat)) : Int) == (i : Int)) = true := by rw [hB0]; simp
      refine ADraw.of tok mixed false [0, 1, 2, 3, 4, 5, 6, 7, 8, 9, 10, 12, 13, 14, 15, 16] [11, 17, 18] (by kernel_rfl) (fun _ _ _ _ h => h) ?_
      conv => whnf
      repeat (first | (refine acond_t (hk) ?_; conv => whnf))
      have hw1 : IntKind.i64.wrap ((i : Int) + 1) = ((i + 1 : Nat) : Int) := by rw [IntKind.wrap_i64]; omega
      have hw2 : IntKind.i64.wrap ((i : Int) + 2) = ((i + 2 : Nat) : Int) := by rw [IntKind.wrap_i64]; omega
      have hlen : (s.drop i).length = s.length - i := List.length_drop
      have htl : tokLen (s.drop i) = if 1 < (s.drop i).length ∧ opsL.contains ((s.drop i).take 2) = true then 2 else if par4.contains ((s.drop i).take 1) = true then 1 else 0 := by
        rw [← opLen_eq _ hne]; unfold tokLen; rw [hA0, hB0, if_neg (by omega), if_neg (by omega)]
      have hx1 : (sb s).extract ((i : Nat) : Int).toNat (IntKind.i64.wrap ((i : Int) + 1)).toNat = sb ((s.drop i).take 1) := by
        rw [hw1, Int.toNat_natCast, Int.toNat_natCast, sb_extract, show i + 1 - i = 1 from by omega]
      by_cases h2l : IntKind.i64.wrap ((i : Int) + 1) < ((sb s).size : Nat)
      · repeat (first | (refine acond_t (hk) ?_; conv => whnf) | (refine acond_t (decide_eq_true h2l) ?_; conv => whnf))
        have hx2 : (sb s).extract ((i : Nat) : Int).toNat (IntKind.i64.wrap ((i : Int) + 2)).toNat = sb ((s.drop i).take 2) := by
          rw [hw2, Int.toNat_natCast, Int.toNat_natCast, sb_extract, show i + 2 - i = 2 from by omega]
        have h2i : i + 1 < s.length := by have := h2l; rw [hw1, sb_size] at this; omega
        refine ⟨⟨by omega, by rw [hw2]; omega, by rw [hw2, sb_size]; omega⟩, ?_⟩
        conv => whnf
        repeat (first | (refine acond_t (hk) ?_; conv => whnf) | (refine acond_t (decide_eq_true h2l) ?_; conv => whnf))
        refine ACall.frameH [] [] rfl (args' := []) (Hc := []) rfl rfl opsR_spec ?_
        rintro r0 H0 ⟨rfl, rfl⟩
        refine ⟨.inl rfl, [.c (toks out)], rfl, ?_⟩
        conv => whnf
        repeat (first | (refine acond_t (hk) ?_; conv => whnf) | (refine acond_t (decide_eq_true h2l) ?_; conv => whnf))
        refine ACall.frameH [] [] rfl (args' := [.rs (strs opsR) 0 1 opsR.length, .s (sb ((s.drop i).take 2))]) (Hc := []) (by show [_, AV.s ((sb s).extract ((i : Nat) : Int).toNat (IntKind.i64.wrap _).toNat)] = _; rw [hx2]; rfl) rfl (in_spec opsR ((s.drop i).take 2) (by decide)) ?_
        rintro r0 H0 ⟨rfl, rfl⟩
        refine ⟨.inl rfl, [.c (toks out)], rfl, ?_⟩
        conv => whnf
        by_cases h2c : opsR.contains ((s.drop i).take 2) = true
        · have htk : tokLen (s.drop i) = i + 2 - i := by rw [htl, if_pos ⟨by omega, by rw [← opsR_contains]; exact h2c⟩]; omega
          have hk1 : (IntKind.i64.wrap ((i : Int) + 2) == (i : Int)) = false := by rw [hw2, beq_eq_false_iff_ne]; omega
          repeat (first | (refine acond_t (hk) ?_; conv => whnf) | (refine acond_t (decide_eq_true h2l) ?_; conv => whnf) | (refine acond_t (h2c) ?_; conv => whnf) | (refine acond_f (hk1) ?_; conv => whnf))
          refine ⟨⟨by omega, by rw [hw2]; omega, by rw [hw2, sb_size]; omega⟩, ?_⟩
          conv => whnf
          refine ⟨by show 0 + out.length * 2 ≤ _; rw [toks_length]; omega, ?_⟩
          conv => whnf
          refine ⟨Nat.le_of_ble_eq_true rfl, ?_⟩
          conv => whnf
          refine ⟨rfl, ?_, ?_, ?_⟩
          · show (out.length + 1) * 2 * 24 ≤ _; omega
          · show (out.length + 1) * 2 ≤ _; omega
          intro c' hc'
          conv => whnf
          refine Gh.regs [0, 2, 3, 4] (Gh.sel [2] rfl (Gh.of ⟨s.length - (i + 2), by omega, i + 2, out ++ [((s.drop i).take (tokLen (s.drop i)), i)], c', by omega, rfl, ?_, ?_, ?_, ?_, ?_⟩))
          · rw [← hout, List.append_assoc, lexS_tok hne hhd0 (by omega), List.drop_drop, htk, show i + (i + 2 - i) = i + 2 from by omega]; rfl
          · rw [List.length_append]; exact hc'
          · rw [List.length_append, List.length_singleton]; omega
          · show [Blk.c (subs _ (((toks out).drop 0).take (out.length * 2) ++ [.s ((sb s).extract i (IntKind.i64.wrap _).toNat), .i .i64 i]))] = _
            rw [hw2, Int.toNat_natCast, sb_extract, ← htk, toks_push, subs_toks]
          · show [(0, _), (2, _), (3, AV.sl (some (0, 0)) 2 (out.length + 1) c'), (4, AV.i IntKind.i64 (IntKind.i64.wrap _))] = _
            rw [List.length_append, hw2]; rfl
        · have h2c' := Bool.eq_false_iff.2 h2c
          repeat (first | (refine acond_t (hk) ?_; conv => whnf) | (refine acond_t (decide_eq_true h2l) ?_; conv => whnf) | (refine acond_f (h2c') ?_; conv => whnf))
          refine ⟨⟨by omega, by rw [hw1]; omega, by rw [hw1, sb_size]; omega⟩, ?_⟩
          conv => whnf
          repeat (first | (refine acond_t (hk) ?_; conv => whnf) | (refine acond_t (decide_eq_true h2l) ?_; conv => whnf) | (refine acond_f (h2c') ?_; conv => whnf))
          refine ACall.frameH [] [1] rfl (args' := [.rs (strs par4) 0 1 par4.length, .s (sb ((s.drop i).take 1))]) (Hc := []) (by show [_, AV.s ((sb s).extract ((i : Nat) : Int).toNat (IntKind.i64.wrap _).toNat)] = _; rw [hx1]; rfl) rfl (in_spec par4 ((s.drop i).take 1) (by decide)) ?_
          rintro r0 H0 ⟨rfl, rfl⟩
          refine ⟨.inr ⟨rfl, rfl⟩, [.c (toks out), .c (strs par4)], rfl, ?_⟩
          conv => whnf
          by_cases h1 : par4.contains ((s.drop i).take 1) = true
          · have htk : tokLen (s.drop i) = i + 1 - i := by rw [htl, if_neg (fun e => h2c (by rw [opsR_contains]; exact e.2)), if_pos h1]; omega
            have hk1 : (IntKind.i64.wrap ((i : Int) + 1) == (i : Int)) = false := by rw [hw1, beq_eq_false_iff_ne]; omega
            repeat (first | (refine acond_t (hk) ?_; conv => whnf) | (refine acond_t (decide_eq_true h2l) ?_; conv => whnf) | (refine acond_f (h2c') ?_; conv => whnf) | (refine acond_t (h1) ?_; conv => whnf) | (refine acond_f (hk1) ?_; conv => whnf))
            refine ⟨⟨by omega, by rw [hw1]; omega, by rw [hw1, sb_size]; omega⟩, ?_⟩
            conv => whnf
            refine ⟨by show 0 + out.length * 2 ≤ _; rw [toks_length]; omega, ?_⟩
            conv => whnf
            refine ⟨Nat.le_of_ble_eq_true rfl, ?_⟩
            conv => whnf
            refine ⟨rfl, ?_, ?_, ?_⟩
            · show (out.length + 1) * 2 * 24 ≤ _; omega
            · show (out.length + 1) * 2 ≤ _; omega
            intro c' hc'
            conv => whnf
            refine Gh.regs [0, 2, 3, 4] (Gh.sel [3] rfl (Gh.of ⟨s.length - (i + 1), by omega, i + 1, out ++ [((s.drop i).take (tokLen (s.drop i)), i)], c', by omega, rfl, ?_, ?_, ?_, ?_, ?_⟩))
            · rw [← hout, List.append_assoc, lexS_tok hne hhd0 (by omega), List.drop_drop, htk, show i + (i + 1 - i) = i + 1 from by omega]; rfl
            · rw [List.length_append]; exact hc'
            · rw [List.length_append, List.length_singleton]; omega
            · show [Blk.c (subs _ (((toks out).drop 0).take (out.length * 2) ++ [.s ((sb s).extract i (IntKind.i64.wrap _).toNat), .i .i64 i]))] = _
              rw [hw1, Int.toNat_natCast, sb_extract, ← htk, toks_push, subs_toks]
            · show [(0, _), (2, _), (3, AV.sl (some (0, 0)) 2 (out.length + 1) c'), (4, AV.i IntKind.i64 (IntKind.i64.wrap _))] = _
              rw [List.length_append, hw1]; rfl

          · have h1' := Bool.eq_false_iff.2 h1
            have htk : tokLen (s.drop i) = 0 := by rw [htl, if_neg (fun e => h2c (by rw [opsR_contains]; exact e.2)), if_neg h1]
            repeat (first | (refine acond_t (hk) ?_; conv => whnf) | (refine acond_t (decide_eq_true h2l) ?_; conv => whnf) | (refine acond_f (h2c') ?_; conv => whnf) | (refine acond_f (h1') ?_; conv => whnf))
            refine ⟨by show 0 + out.length * 2 ≤ _; rw [toks_length]; omega, ?_⟩
            conv => whnf
            refine ⟨Nat.le_of_ble_eq_true rfl, ?_⟩
            conv => whnf
            refine ⟨rfl, ?_, ?_, ?_⟩
            · show (out.length + 1) * 2 * 24 ≤ _; omega
            · show (out.length + 1) * 2 ≤ _; omega
            intro c' hc'
            conv => whnf
            have hfin : out ++ [([63], i)] = lexS s 0 := by rw [← hout, lexS_bad hne hhd0 htk]
            refine GhR.frz 3 rfl (GhR.sel [] rfl (GhR.of ⟨?_, rfl⟩))
            show ARes.ret (AV.rs (subs _ (((toks out).drop 0).take (out.length * 2) ++ [.s (sb [63]), .i .i64 i])) 0 2 (out.length + 1)) = _
            rw [toks_push, subs_toks, hfin, ← hfin, List.length_append]; rfl
      · repeat (first | (refine acond_t (hk) ?_; conv => whnf) | (refine acond_f (decide_eq_false h2l) ?_; conv => whnf))
        have h2i : ¬ i + 1 < s.length := fun e => h2l (by rw [hw1, sb_size]; omega)
        refine ⟨⟨by omega, by rw [hw1]; omega, by rw [hw1, sb_size]; omega⟩, ?_⟩
        conv => whnf
        repeat (first | (refine acond_t (hk) ?_; conv => whnf) | (refine acond_f (decide_eq_false h2l) ?_; conv => whnf))
        refine ACall.frameH [] [1] rfl (args' := [.rs (strs par4) 0 1 par4.length, .s (sb ((s.drop i).take 1))]) (Hc := []) (by show [_, AV.s ((sb s).extract ((i : Nat) : Int).toNat (IntKind.i64.wrap _).toNat)] = _; rw [hx1]; rfl) rfl (in_spec par4 ((s.drop i).take 1) (by decide)) ?_
        rintro r0 H0 ⟨rfl, rfl⟩
        refine ⟨.inr ⟨rfl, rfl⟩, [.c (toks out), .c (strs par4)], rfl, ?_⟩
        conv => whnf
        by_cases h1 : par4.contains ((s.drop i).take 1) = true
        · have htk : tokLen (s.drop i) = i + 1 - i := by rw [htl, if_neg (fun e => by have := e.1; omega), if_pos h1]; omega
          have hk1 : (IntKind.i64.wrap ((i : Int) + 1) == (i : Int)) = false := by rw [hw1, beq_eq_false_iff_ne]; omega
          repeat (first | (refine acond_t (hk) ?_; conv => whnf) | (refine acond_f (decide_eq_false h2l) ?_; conv => whnf) | (refine acond_t (h1) ?_; conv => whnf) | (refine acond_f (hk1) ?_; conv => whnf))
          refine ⟨⟨by omega, by rw [hw1]; omega, by rw [hw1, sb_size]; omega⟩, ?_⟩
          conv => whnf
          refine ⟨by show 0 + out.length * 2 ≤ _; rw [toks_length]; omega, ?_⟩
          conv => whnf
          refine ⟨Nat.le_of_ble_eq_true rfl, ?_⟩
          conv => whnf
          refine ⟨rfl, ?_, ?_, ?_⟩
          · show (out.length + 1) * 2 * 24 ≤ _; omega
          · show (out.length + 1) * 2 ≤ _; omega
          intro c' hc'
          conv => whnf
          refine Gh.regs [0, 2, 3, 4] (Gh.sel [3] rfl (Gh.of ⟨s.length - (i + 1), by omega, i + 1, out ++ [((s.drop i).take (tokLen (s.drop i)), i)], c', by omega, rfl, ?_, ?_, ?_, ?_, ?_⟩))
          · rw [← hout, List.append_assoc, lexS_tok hne hhd0 (by omega), List.drop_drop, htk, show i + (i + 1 - i) = i + 1 from by omega]; rfl
          · rw [List.length_append]; exact hc'
          · rw [List.length_append, List.length_singleton]; omega
          · show [Blk.c (subs _ (((toks out).drop 0).take (out.length * 2) ++ [.s ((sb s).extract i (IntKind.i64.wrap _).toNat), .i .i64 i]))] = _
            rw [hw1, Int.toNat_natCast, sb_extract, ← htk, toks_push, subs_toks]
          · show [(0, _), (2, _), (3, AV.sl (some (0, 0)) 2 (out.length + 1) c'), (4, AV.i IntKind.i64 (IntKind.i64.wrap _))] = _
            rw [List.length_append, hw1]; rfl

        · have h1' := Bool.eq_false_iff.2 h1
          have htk : tokLen (s.drop i) = 0 := by rw [htl, if_neg (fun e => by have := e.1; omega), if_neg h1]
          repeat (first | (refine acond_t (hk) ?_; conv => whnf) | (refine acond_f (decide_eq_false h2l) ?_; conv => whnf) | (refine acond_f (h1') ?_; conv => whnf))
          refine ⟨by show 0 + out.length * 2 ≤ _; rw [toks_length]; omega, ?_⟩
          conv => whnf
          refine ⟨Nat.le_of_ble_eq_true rfl, ?_⟩
          conv => whnf
          refine ⟨rfl, ?_, ?_, ?_⟩
          · show (out.length + 1) * 2 * 24 ≤ _; omega
          · show (out.length + 1) * 2 ≤ _; omega
          intro c' hc'
          conv => whnf
          have hfin : out ++ [([63], i)] = lexS s 0 := by rw [← hout, lexS_bad hne hhd0 htk]
          refine GhR.frz 3 rfl (GhR.sel [] rfl (GhR.of ⟨?_, rfl⟩))
          show ARes.ret (AV.rs (subs _ (((toks out).drop 0).take (out.length * 2) ++ [.s (sb [63]), .i .i64 i])) 0 2 (out.length + 1)) = _
          rw [toks_push, subs_toks, hfin, ← hfin, List.length_append]; rfl
    · have hil : i = s.length := by rw [sb_size] at h; omega
      repeat (first | (refine acond_f (decide_eq_false h) ?_; conv => whnf))
      refine ⟨by show 0 + out.length * 2 ≤ _; rw [toks_length]; omega, ?_⟩
      conv => whnf
      refine ⟨Nat.le_of_ble_eq_true rfl, ?_⟩
      conv => whnf
      refine ⟨rfl, ?_, ?_, ?_⟩
      · show (out.length + 1) * 2 * 24 ≤ _; omega
      · show (out.length + 1) * 2 ≤ _; omega
      intro c' hc'
      conv => whnf
      have hfin : out ++ [([], i)] = lexS s 0 := by rw [← hout, hil, List.drop_length]; rfl
      refine GhR.frz 2 rfl (GhR.sel [] rfl (GhR.of ⟨?_, rfl⟩))
      show ARes.ret (AV.rs (subs _ (((toks out).drop 0).take (out.length * 2) ++ [.s (sb []), .i .i64 ((sb s).size : Nat)])) 0 2 (out.length + 1)) = _
      rw [sb_size, ← hil, toks_push, subs_toks, hfin, ← hfin, List.length_append]; rfl
end Go.AK
namespace Go.AK
open Go Go.RowKit Go.Proofs
set_option linter.unusedVariables false
set_option maxRecDepth 100000
/-! What is known of a text's tokens. -/
structure Lexed (T : List Tok) : Prop where
  ends : ∀ I, I < T.length → (hdT (T.drop I)).1 ≠ [] → (hdT (T.drop I)).1 ≠ [63] → I + 1 < T.length
  digs : ∀ I, I < T.length → badNum (hdT (T.drop I)).1 = false → ∀ c ∈ (hdT (T.drop I)).1, 48 ≤ c.toNat ∧ c.toNat ≤ 57
theorem Lexed.last (t : Tok) (h : t.1 = [] ∨ t.1 = [63]) : Lexed [t] := by
  refine ⟨fun I hI h1 h2 => ?_, fun I hI h1 => ?_⟩
  · have : I = 0 := by simpa using hI
    subst this
    rcases h with h | h
    · exact absurd h h1
    · exact absurd h h2
  · have : I = 0 := by simpa using hI
    subst this
    replace h1 : badNum t.1 = false := h1
    rcases h with h | h <;> (rw [h] at h1; exact absurd h1 (by decide))
theorem Lexed.cons (t : Tok) (T : List Tok) (h : Lexed T) (hT : T ≠ []) (hd : badNum t.1 = false → ∀ c ∈ t.1, 48 ≤ c.toNat ∧ c.toNat ≤ 57) : Lexed (t :: T) := by
  have hl : 0 < T.length := List.length_pos_iff.2 hT
  refine ⟨fun I hI h1 h2 => ?_, fun I hI h1 => ?_⟩
  · cases I with
    | zero => simp only [List.length_cons]; omega
    | succ I =>
      have := h.ends I (by simpa using hI) h1 h2
      simp only [List.length_cons]; omega
  · cases I with
    | zero => exact hd h1
    | succ I => exact h.digs I (by simpa using hI) h1
theorem lex_ne : ∀ (f : Nat) (r : Str) (p : Nat), r.length < f → lex f r p ≠ []
  | 0, _, _, h => by omega
  | f + 1, r, p, h => by
    unfold lex
    split
    · simp
    rename_i h0
    have hl : 0 < r.length := List.length_pos_iff.2 h0
    split
    · exact lex_ne f _ _ (by rw [List.length_tail]; omega)
    split
    · simp
    · simp
theorem lex_lexed : ∀ (f : Nat) (r : Str) (p : Nat), r.length < f → Lexed (lex f r p)
  | 0, _, _, h => by omega
  | f + 1, r, p, h => by
    unfold lex
    split
    · exact Lexed.last _ (.inl rfl)
    rename_i h0
    have hl : 0 < r.length := List.length_pos_iff.2 h0
    split
    · exact lex_lexed f _ _ (by rw [List.length_tail]; omega)
    split
    · exact Lexed.last _ (.inr rfl)
    rename_i h1 h2
    have hd : (r.drop (tokLen r)).length = r.length - tokLen r := List.length_drop
    refine Lexed.cons _ _ (lex_lexed f _ _ (by omega)) (lex_ne f _ _ (by omega)) fun hb => ?_
    have hdig : 0 < runB 48 57 r := by
      cases r with
      | nil => exact absurd rfl h0
      | cons c r =>
        cases hm : tokLen (c :: r) with
        | zero => exact absurd hm h2
        | succ m =>
          replace hb : badNum ((c :: r).take (tokLen (c :: r))) = false := hb
          rw [hm, List.take_succ_cons] at hb
          simp only [badNum, isDig, Bool.or_eq_false_iff, Bool.not_eq_false', Bool.and_eq_true, decide_eq_true_eq] at hb
          show 0 < (if 48 ≤ c.toNat ∧ c.toNat ≤ 57 then runB 48 57 r + 1 else 0)
          rw [if_pos hb.1]; omega
    show ∀ c ∈ r.take (tokLen r), _
    rw [tok_dig hdig]
    exact runB_all 48 57 r
theorem lexS_lexed (r : Str) (p : Nat) : Lexed (lexS r p) := lex_lexed _ _ _ (Nat.lt_succ_self _)
theorem lexS_ne (r : Str) (p : Nat) : lexS r p ≠ [] := lex_ne _ _ _ (Nat.lt_succ_self _)
theorem hdT_drop {T : List Tok} {I : Nat} (h : I < T.length) : hdT (T.drop I) = T[I] := by
  rw [List.drop_eq_getElem_cons h]; rfl
theorem tail_drop (T : List Tok) (I : Nat) : (T.drop I).tail = T.drop (I + 1) := by
  rw [List.tail_drop]
theorem aget_hd0 {T : List Tok} {i o : Nat} (ho : o = i * 2) (h : i < T.length) {K : AV → Prop} (hk : K (.s (sb (hdT (T.drop i)).1))) : aget (toks T) o K := by
  rw [hdT_drop h] at hk; exact aget_tok0 ho h hk
theorem aget_hd1 {T : List Tok} {i o : Nat} (ho : o = i * 2 + 1) (h : i < T.length) {K : AV → Prop} (hk : K (.i .i64 (hdT (T.drop i)).2)) : aget (toks T) o K := by
  rw [hdT_drop h] at hk; exact aget_tok1 ho h hk
/-- A reader's cells. -/
def rcl (T : List Tok) (I o a e : Int) : List AV := [.rs (toks T) 0 2 T.length, .i .i64 I, .i .i64 o, .i .i64 a, .i .i64 e]
theorem fail_spec (T : List Tok) (I : Nat) (o a e : Int) (hI : I < T.length) (hT : T.length < 1000000) (h : (hdT (T.drop I)).1 ≠ [63] ∨ e = 11) :
    ACall Tryd.prog 30 [pAV, .i .i64 e] [.c (rcl T I o a 0)] fun R H => R = .ret (.p none) ∧ H = [.c (rcl T I o (hdT (T.drop I)).2 e)] := by
  refine ACall.enter tok false Tryd.func30 rfl rfl rfl (AW_sound (ip := false) tok _ _ _ _ ?_)
  conv => whnf
  refine ⟨Nat.le_of_ble_eq_true rfl, ?_⟩
  conv => whnf
  refine ADraw.of tok mixed false [0, 1, 2, 3, 4, 5, 6, 7, 8, 9, 10, 11, 12, 13] [14] (by kernel_rfl) (fun _ _ _ _ h => h) ?_
  conv => whnf
  refine ⟨⟨by omega, by omega⟩, ?_⟩
  conv => whnf
  refine aget_hd1 (i := I) (by show 0 + ((I : Nat) : Int).toNat * 2 + 1 = _; omega) hI ?_
  conv => whnf
  refine ⟨Nat.le_of_ble_eq_true rfl, ?_⟩
  conv => whnf
  refine ADraw.of tok mixed false [0, 1, 2, 3, 4, 5, 6, 7, 8, 9, 10, 11] [] (by kernel_rfl) (fun _ _ _ _ h => h) ?_
  conv => whnf
  refine ⟨⟨by omega, by omega⟩, ?_⟩
  conv => whnf
  refine aget_hd0 (i := I) (by show 0 + ((I : Nat) : Int).toNat * 2 + 0 = _; omega) hI ?_
  conv => whnf
  by_cases hq : (hdT (T.drop I)).1 = [63]
  · have b1 : ((hdT (T.drop I)).1 == [63]) = true := by rw [hq]; rfl
    have he : e = 11 := h.resolve_left (fun k => k hq)
    subst he
    repeat (first | (refine acond_t (b1) ?_; conv => whnf))
    refine ⟨Nat.le_of_ble_eq_true rfl, ?_⟩
    conv => whnf
    exact ⟨rfl, rfl⟩
  · have b1 : ((hdT (T.drop I)).1 == [63]) = false := by simpa using hq
    repeat (first | (refine acond_f (b1) ?_; conv => whnf))
    exact ⟨rfl, rfl⟩
theorem valD_succ (d : Str) (k : Nat) (h : k < d.length) : valD (d.take (k + 1)) = 10 * valD (d.take k) + ((d.getD k 0).toNat - 48) := by
  unfold valD
  rw [List.take_succ_eq_append_getElem h, List.foldl_append, List.getD_eq_getElem?_getD, List.getElem?_eq_getElem h]; rfl
theorem valD_take (d : Str) (k : Nat) : valD (d.take k) ≤ valD d := by
  have : valD d = (d.drop k).foldl (fun n c => 10 * n + (c.toNat - 48)) (valD (d.take k)) := by
    unfold valD
    rw [← List.foldl_append, List.take_append_drop]
  rw [this]
  exact valD_ge _ _
theorem wrap_small' {n : Int} (h : -9223372036854775808 ≤ n) (h' : n ≤ 9223372036854775807) : IntKind.i64.wrap n = n := wrap_small h h'
theorem wrap_dig {n dd : Nat} (h : 10 * n + dd ≤ 9223372036854775807) : IntKind.i64.wrap (IntKind.i64.wrap (10 * (n : Int)) + (dd : Int)) = ((10 * n + dd : Nat) : Int) := by
  rw [wrap_small (n := 10 * (n : Int)) (by omega) (by omega), wrap_small (by omega) (by omega)]; omega
theorem wrap_quo {dd : Nat} (h : dd ≤ 9) : IntKind.i64.wrap (Int.tdiv (IntKind.i64.wrap (9223372036854775807 - (dd : Int))) 10) = (((9223372036854775807 - dd) / 10 : Nat) : Int) := by
  rw [wrap_small (n := 9223372036854775807 - (dd : Int)) (by omega) (by omega), show 9223372036854775807 - (dd : Int) = ((9223372036854775807 - dd : Nat) : Int) from by omega,
    show (Int.tdiv ((9223372036854775807 - dd : Nat) : Int) 10) = (((9223372036854775807 - dd) / 10 : Nat) : Int) from rfl, wrap_small (by omega) (by omega)]
theorem wrap_u8d {c : Nat} (h : 48 ≤ c) (h' : c ≤ 57) : IntKind.i64.wrap (IntKind.u8.wrap ((c : Int) - 48)) = ((c - 48 : Nat) : Int) := by
  have : IntKind.u8.wrap ((c : Int) - 48) = ((c - 48 : Nat) : Int) := by rw [IntKind.wrap_u8]; omega
  rw [this, wrap_small (by omega) (by omega)]
theorem quo_lt {n dd V : Nat} (hd : dd ≤ 9) (hV : V = 10 * n + dd) : (9223372036854775807 < V ↔ ((n : Nat) : Int) > (((9223372036854775807 - dd) / 10 : Nat) : Int)) := by omega
theorem value_spec (d : Str) (hd : ∀ c ∈ d, 48 ≤ c.toNat ∧ c.toNat ≤ 57) (hl : d.length < 1000000) :
    ACall Tryd.prog 71 [.s (sb d)] [] fun R H => (if 9223372036854775807 < valD d then R = .ret (.tup [.i .i64 0, .b false]) else R = .ret (.tup [.i .i64 (valD d), .b true])) ∧ H = [] := by
  refine ACall.enter tok false Tryd.func71 rfl rfl rfl (AW_sound (ip := false) tok _ _ _ _ ?_)
  conv => whnf
  refine ALoop.ind (ip := false) tok (fun m r H => ∃ (k : Nat), k ≤ d.length ∧ m = d.length - k ∧ valD (d.take k) ≤ 9223372036854775807 ∧ H = [] ∧
    r = [(0, .s (sb d)), (2, .i .i64 0), (3, .b false), (4, .i .i64 (valD (d.take k))), (5, .i .i64 k)]) d.length ?_ ?_
  · exact Gh.regs [0, 2, 3, 4, 5] (Gh.of ⟨0, by omega, by omega, Nat.zero_le _, rfl, rfl⟩)
  · rintro m r H ⟨k, hk, rfl, hv, rfl, rfl⟩
    by_cases h : (k : Int) < ((sb d).size : Nat)
    · have hkl : k < d.length := by rw [sb_size] at h; omega
      have hc : 48 ≤ (d.getD k 0).toNat ∧ (d.getD k 0).toNat ≤ 57 := by
        rw [List.getD_eq_getElem?_getD, List.getElem?_eq_getElem hkl]
        exact hd _ (List.getElem_mem hkl)
      have hs := valD_succ d k hkl
      have ht := valD_take d (k + 1)
      generalize valD (d.take (k + 1)) = V1 at hs ht
      have hx : IntKind.i64.wrap (IntKind.u8.wrap ((((sb d).data.toList.getD ((k : Nat) : Int).toNat 0).toNat : Int) - 48)) = (((d.getD k 0).toNat - 48 : Nat) : Int) := wrap_u8d hc.1 hc.2
      have hd9 : (d.getD k 0).toNat - 48 ≤ 9 := by omega
      generalize hdd : (d.getD k 0).toNat - 48 = dd at hs hx hd9
      have hq : IntKind.i64.wrap (Int.tdiv (IntKind.i64.wrap (9223372036854775807 - IntKind.i64.wrap (IntKind.u8.wrap ((((sb d).data.toList.getD ((k : Nat) : Int).toNat 0).toNat : Int) - 48)))) 10) = (((9223372036854775807 - dd) / 10 : Nat) : Int) := by
        rw [hx]; exact wrap_quo hd9
      have hw1 : IntKind.i64.wrap ((k : Int) + 1) = ((k + 1 : Nat) : Int) := wrap_small (by omega) (by omega)
      generalize hn : valD (d.take k) = n at hs hv ⊢
      by_cases hov : 9223372036854775807 < V1
      · have hg := (quo_lt hd9 hs).1 hov
        conv => whnf
        repeat (first | (refine acond_t (decide_eq_true h) ?_; conv => whnf))
        refine ⟨⟨by omega, h⟩, ?_⟩
        conv => whnf
        refine ⟨by decide, ?_⟩
        conv => whnf
        repeat (first | (refine acond_t ((by rw [hq]; exact decide_eq_true hg)) ?_; conv => whnf))
        exact ⟨by rw [if_pos (Nat.lt_of_lt_of_le hov ht)], rfl⟩
      · have hg := fun e => hov ((quo_lt hd9 hs).2 e)
        conv => whnf
        repeat (first | (refine acond_t (decide_eq_true h) ?_; conv => whnf))
        refine ⟨⟨by omega, h⟩, ?_⟩
        conv => whnf
        refine ⟨by decide, ?_⟩
        conv => whnf
        repeat (first | (refine acond_f ((by rw [hq]; exact decide_eq_false hg)) ?_; conv => whnf))
        refine Gh.regs [0, 2, 3, 4, 5] (Gh.of ⟨d.length - (k + 1), by omega, k + 1, by omega, rfl, ?_, rfl, ?_⟩)
        · rw [valD_succ d k hkl, hn, hdd, ← hs]; omega
        · show [_, _, _, (4, AV.i IntKind.i64 (IntKind.i64.wrap (IntKind.i64.wrap (10 * (n : Int)) + IntKind.i64.wrap (IntKind.u8.wrap _)))), (5, AV.i IntKind.i64 (IntKind.i64.wrap _))] = _
          rw [hw1, hx, valD_succ d k hkl, hn, hdd, wrap_dig (by rw [← hs]; exact Nat.le_of_not_lt hov)]
    · have : k = d.length := by rw [sb_size] at h; omega
      subst this
      have hv2 : ¬ 9223372036854775807 < valD d := by rw [List.take_length] at hv; exact Nat.not_lt.2 hv
      conv => whnf
      repeat (first | (refine acond_f (decide_eq_false h) ?_; conv => whnf))
      exact ⟨by rw [if_neg hv2, List.take_length], rfl⟩
end Go.AK
namespace Go.AK
open Go Go.RowKit Go.Proofs
set_option linter.unusedVariables false
set_option maxRecDepth 100000
/-- What a reader's call comes to. -/
def RK (T : List Tok) (o : Int) (r : PR) (R : ARes) (H : Heap) : Prop := match r with
  | .out => False
  | .err p e => e ≠ 0 ∧ ∃ (y : Ex) (I' o' : Int), R = .ret y.av ∧ H = [.c (rcl T I' o' p e)]
  | .ok x L => ∃ I : Nat, I < T.length ∧ L = T.drop I ∧ R = .ret x.av ∧ H = [.c (rcl T I o 0 0)]
theorem RK.cases {T : List Tok} {o : Int} {r : PR} {R : ARes} {H : Heap} (h : RK T o r R H) :
    (∃ p e, r = .err p e ∧ e ≠ 0 ∧ ∃ (y : Ex) (I' o' : Int), R = .ret y.av ∧ H = [.c (rcl T I' o' p e)]) ∨ (∃ (x : Ex) (I : Nat), r = .ok x (T.drop I) ∧ I < T.length ∧ R = .ret x.av ∧ H = [.c (rcl T I o 0 0)]) := by
  cases r with
  | out => exact h.elim
  | err p e => exact .inl ⟨p, e, rfl, h⟩
  | ok x L =>
    obtain ⟨I, h1, rfl, h2, h3⟩ := h
    exact .inr ⟨x, I, rfl, h1, h2, h3⟩
def RSpec (T : List Tok) (fn f : Nat) (m : Md) (B : Str → Prop) : Prop := ∀ (o I : Nat), o ≤ 64 → I < T.length → B (hdT (T.drop I)).1 → pp false f m o (T.drop I) ≠ .out →
  ACall Tryd.prog fn [pAV] [.c (rcl T I o 0 0)] (RK T o (pp false f m o (T.drop I)))
theorem nxt_lazy {L : List Tok} {k : List Tok → PR} : nxt false L k = k L.tail := by
  unfold nxt; rw [if_neg (fun e => nomatch e.1)]
theorem rnot_step {T : List Tok} {f : Nat} (hX : Lexed T) (hT : T.length < 100000) (ihn : RSpec T 52 f .not fun _ => True) (iho : RSpec T 61 f .opd (· ≠ wNot)) :
    RSpec T 52 (f + 1) .not fun _ => True := by
  intro o I ho hI _ hout
  have he : pp false (f + 1) .not o (T.drop I) = if (hdT (T.drop I)).1 = wNot then nxt false (T.drop I) fun L => (pp false f .not o L).bind fun x L => .ok (.nd 1 [] [] 0 x .nil) L else pp false f .opd o (T.drop I) := rfl
  generalize pp false (f + 1) .not o (T.drop I) = r at he hout ⊢
  have hw : IntKind.i64.wrap ((I : Int) + 1) = ((I + 1 : Nat) : Int) := wrap_small (by omega) (by omega)
  refine ACall.gh ?_
  refine ACall.enter tok false Tryd.func52 rfl rfl rfl (AW_sound (ip := false) tok _ _ _ _ ?_)
  conv => whnf
  refine ADraw.of tok mixed false [0, 1, 2, 3, 4, 5, 6, 7, 8, 9, 10, 11, 12, 13, 14, 15, 16, 17, 18] [] (by kernel_rfl) (fun _ _ _ _ h => h) ?_
  conv => whnf
  refine ⟨⟨by omega, by omega⟩, ?_⟩
  conv => whnf
  refine aget_hd0 (i := I) (by show 0 + ((I : Nat) : Int).toNat * 2 + 0 = _; omega) hI ?_
  conv => whnf
  by_cases c1 : (hdT (T.drop I)).1 = wNot
  · have b1 : ((hdT (T.drop I)).1 == wNot) = true := by rw [c1]; rfl
    rw [if_pos c1, nxt_lazy, tail_drop] at he
    have hI1 := hX.ends I hI (by rw [c1]; decide) (by rw [c1]; decide)
    repeat (first | (refine acond_t (b1) ?_; conv => whnf))
    refine ⟨Nat.le_of_ble_eq_true rfl, ?_⟩
    conv => whnf
    refine ACall.heq (H' := [.c (rcl T (I + 1 : Nat) o 0 0)]) (by show [Blk.c [_, .i .i64 (IntKind.i64.wrap _), _, _, _]] = _; rw [hw]; rfl) ?_
    refine ACall.mono (ihn o (I + 1) ho hI1 trivial (fun e => hout (by rw [he, e]; rfl))) ?_
    intro R H hP
    rcases hP.cases with ⟨p, e, hr, hne, x, I', o', rfl, rfl⟩ | ⟨x, I', hr, hI', rfl, rfl⟩
    · rw [hr] at he; subst he
      obtain ⟨X, hX0⟩ : ∃ X, X = x := ⟨x, rfl⟩
      cases x <;> (
        conv => whnf
        refine GhR.frz 1 rfl (GhR.sel [0] rfl (GhR.of ⟨hne, .nd 1 [] [] 0 X .nil, I', o', ?_, ?_⟩))
        · show ARes.ret (.rp [.i .i64 1, .s (sb []), .s (sb []), .i .i64 0, sub _ (Ex.av _), .p none] 0) = _
          try subst hX0
          simp only [sub_av]; rfl
        · show [Blk.c (AV.rs (subs _ (subs _ (toks T))) 0 2 T.length :: _)] = _
          rw [subs_toks, subs_toks]; rfl)
    · rw [hr] at he; subst he
      cases x <;> (
        conv => whnf
        refine GhR.frz 1 rfl (GhR.sel [0] rfl (GhR.of ⟨I', hI', rfl, ?_, ?_⟩))
        · show ARes.ret (.rp [.i .i64 1, .s (sb []), .s (sb []), .i .i64 0, sub _ (Ex.av _), .p none] 0) = _
          simp only [sub_av]; rfl
        · show [Blk.c (AV.rs (subs _ (subs _ (toks T))) 0 2 T.length :: _)] = _
          rw [subs_toks, subs_toks]; rfl)
  · have b1 : ((hdT (T.drop I)).1 == wNot) = false := by simpa using c1
    rw [if_neg c1] at he
    repeat (first | (refine acond_f (b1) ?_; conv => whnf))
    refine ACall.mono (iho o I ho hI c1 (he ▸ hout)) ?_
    intro R H hP
    rw [← he] at hP
    rcases hP.cases with ⟨p, e, hr, hne, x, I', o', rfl, rfl⟩ | ⟨x, I', hr, hI', rfl, rfl⟩
    · conv => whnf
      exact GhR.of hP
    · conv => whnf
      exact GhR.of hP
theorem rand_step {T : List Tok} {f : Nat} (hX : Lexed T) (hT : T.length < 100000) (ih : ∀ g, g ≤ f → RSpec T 52 g .not fun _ => True) :
    RSpec T 44 (f + 1) .and fun _ => True := by
  intro o I ho hI _ hout
  have he : pp false (f + 1) .and o (T.drop I) = (pp false f .not o (T.drop I)).bind fun x L => pp false f (.andL x) o L := rfl
  generalize pp false (f + 1) .and o (T.drop I) = r at he hout ⊢
  refine ACall.gh ?_
  refine ACall.enter tok false Tryd.func44 rfl rfl rfl (AW_sound (ip := false) tok _ _ _ _ ?_)
  conv => whnf
  refine ACall.mono (ih f (Nat.le_refl _) o I ho hI trivial (fun e => hout (by rw [he, e]; rfl))) ?_
  intro R H hP
  rcases hP.cases with ⟨p, e, hr, hne, x0, I', o', rfl, rfl⟩ | ⟨x0, I0, hr, hI0, rfl, rfl⟩
  · rw [hr] at he; subst he
    conv => whnf
    refine ALoopR.loop (n := 1) ?_
    refine ALoopR.step (ip := false) tok ?_
    conv => whnf
    refine ADraw.of tok mixed false [0, 1, 2, 3, 4, 5, 6, 7, 8, 9, 10, 11, 12, 13, 14, 15, 16, 17, 18] [] (by kernel_rfl) (fun _ _ _ _ h => h) ?_
    conv => whnf
    have b0 : (e == 0) = false := by simpa using hne
    repeat (first | (refine acond_f (b0) ?_; conv => whnf))
    exact GhR.of ⟨hne, x0, I', o', rfl, rfl⟩
  rw [hr] at he
  replace he : r = pp false f (.andL x0) o (T.drop I0) := he
  conv => whnf
  refine ALoop.ind (ip := false) tok (fun m r1 H => ((∃ (g : Nat) (x : Ex) (I : Nat), m = g + 1 ∧ g ≤ f ∧ r = pp false g (.andL x) o (T.drop I) ∧ I < T.length ∧ H = [.c (rcl T I o 0 0)] ∧
    r1 = [(3, x.av), (0, pAV), (2, .p none)]) ∨ (m = 0 ∧ ∃ (p : Nat) (e : Int) (y : Ex) (I' o' : Int), r = .err p e ∧ e ≠ 0 ∧ H = [.c (rcl T I' o' p e)] ∧ r1 = [(3, y.av), (0, pAV), (2, .p none)]))) (f + 1) ?_ ?_
  · exact Gh.regs [3, 0, 2] (Gh.of (.inl ⟨f, x0, I0, rfl, Nat.le_refl _, he, hI0, rfl, rfl⟩))
  · rintro m r1 H (⟨g, x, I, rfl, hg, he, hI, rfl, rfl⟩ | ⟨rfl, p, e, y, I', o', rfl, hne, rfl, rfl⟩)
    · cases g with
      | zero => exact absurd he hout
      | succ g =>
      have hw : IntKind.i64.wrap ((I : Int) + 1) = ((I + 1 : Nat) : Int) := wrap_small (by omega) (by omega)
      replace he : r = if (hdT (T.drop I)).1 = wAnd then nxt false (T.drop I) fun L => (pp false g .not o L).bind fun y L => pp false g (.andL (.nd 2 [] [] 0 x y)) o L else .ok x (T.drop I) := he
      conv => whnf
      refine ADraw.of tok mixed false [0, 1, 2, 3, 4, 5, 6, 7, 8, 9, 10, 11, 12, 13, 14, 15, 16, 17, 18] [] (by kernel_rfl) (fun _ _ _ _ h => h) ?_
      conv => whnf
      refine ⟨⟨by omega, by omega⟩, ?_⟩
      conv => whnf
      refine aget_hd0 (i := I) (by show 0 + ((I : Nat) : Int).toNat * 2 + 0 = _; omega) hI ?_
      conv => whnf
      by_cases c1 : (hdT (T.drop I)).1 = wAnd
      · have b1 : ((hdT (T.drop I)).1 == wAnd) = true := by rw [c1]; rfl
        rw [if_pos c1, nxt_lazy, tail_drop] at he
        have hI1 := hX.ends I hI (by rw [c1]; decide) (by rw [c1]; decide)
        repeat (first | (refine acond_t (b1) ?_; conv => whnf))
        refine ⟨Nat.le_of_ble_eq_true rfl, ?_⟩
        conv => whnf
        refine ACall.heq (H' := [.c (rcl T (I + 1 : Nat) o 0 0)]) (by show [Blk.c [_, .i .i64 (IntKind.i64.wrap _), _, _, _]] = _; rw [hw]; rfl) ?_
        refine ACall.mono (ih g (by omega) o (I + 1) ho hI1 trivial (fun e => hout (by rw [he, e]; rfl))) ?_
        intro R H hP
        rcases hP.cases with ⟨p, e, hr, hne, y, I', o', rfl, rfl⟩ | ⟨y, I', hr, hI', rfl, rfl⟩
        · rw [hr] at he
          obtain ⟨X, hX0⟩ : ∃ X, X = x := ⟨x, rfl⟩
          obtain ⟨Y, hY0⟩ : ∃ Y, Y = y := ⟨y, rfl⟩
          cases x <;> cases y <;> (
            conv => whnf
            refine Gh.regs [3, 0, 2] (Gh.frz 1 rfl (Gh.sel [0] rfl (Gh.of ⟨0, by omega, .inr ⟨rfl, p, e, .nd 2 [] [] 0 X Y, I', o', he, hne, ?_, ?_⟩⟩)))
            · show [Blk.c (AV.rs (subs _ (subs _ (toks T))) 0 2 T.length :: _)] = _
              rw [subs_toks, subs_toks]; rfl
            · show [(3, AV.rp [.i .i64 2, .s (sb []), .s (sb []), .i .i64 0, sub _ (Ex.av _), sub _ (Ex.av _)] 0), (0, pAV), (2, AV.p none)] = _
              subst hX0; subst hY0
              simp only [sub_av]; rfl)
        · rw [hr] at he
          obtain ⟨X, hX0⟩ : ∃ X, X = x := ⟨x, rfl⟩
          obtain ⟨Y, hY0⟩ : ∃ Y, Y = y := ⟨y, rfl⟩
          replace he : r = pp false g (.andL (.nd 2 [] [] 0 x y)) o (T.drop I') := he
          cases x <;> cases y <;> (
            conv => whnf
            refine Gh.regs [3, 0, 2] (Gh.frz 1 rfl (Gh.sel [0] rfl (Gh.of ⟨g + 1, by omega, .inl ⟨g, .nd 2 [] [] 0 X Y, I', rfl, by omega, ?_, hI', ?_, ?_⟩⟩)))
            · subst hX0; subst hY0; exact he
            · show [Blk.c (AV.rs (subs _ (subs _ (toks T))) 0 2 T.length :: _)] = _
              rw [subs_toks, subs_toks]; rfl
            · show [(3, AV.rp [.i .i64 2, .s (sb []), .s (sb []), .i .i64 0, sub _ (Ex.av _), sub _ (Ex.av _)] 0), (0, pAV), (2, AV.p none)] = _
              subst hX0; subst hY0
              simp only [sub_av]; rfl)
      · have b1 : ((hdT (T.drop I)).1 == wAnd) = false := by simpa using c1
        rw [if_neg c1] at he
        subst he
        repeat (first | (refine acond_f (b1) ?_; conv => whnf))
        exact GhR.of ⟨I, hI, rfl, rfl, rfl⟩
    · conv => whnf
      refine ADraw.of tok mixed false [0, 1, 2, 3, 4, 5, 6, 7, 8, 9, 10, 11, 12, 13, 14, 15, 16, 17, 18] [] (by kernel_rfl) (fun _ _ _ _ h => h) ?_
      conv => whnf
      have b0 : (e == 0) = false := by simpa using hne
      repeat (first | (refine acond_f (b0) ?_; conv => whnf))
      exact GhR.of ⟨hne, y, I', o', rfl, rfl⟩
theorem ror_step {T : List Tok} {f : Nat} (hX : Lexed T) (hT : T.length < 100000) (ih : ∀ g, g ≤ f → RSpec T 44 g .and fun _ => True) :
    RSpec T 29 (f + 1) .or fun _ => True := by
  intro o I ho hI _ hout
  have he : pp false (f + 1) .or o (T.drop I) = (pp false f .and o (T.drop I)).bind fun x L => pp false f (.orL x) o L := rfl
  generalize pp false (f + 1) .or o (T.drop I) = r at he hout ⊢
  refine ACall.gh ?_
  refine ACall.enter tok false Tryd.func29 rfl rfl rfl (AW_sound (ip := false) tok _ _ _ _ ?_)
  conv => whnf
  refine ACall.mono (ih f (Nat.le_refl _) o I ho hI trivial (fun e => hout (by rw [he, e]; rfl))) ?_
  intro R H hP
  rcases hP.cases with ⟨p, e, hr, hne, x0, I', o', rfl, rfl⟩ | ⟨x0, I0, hr, hI0, rfl, rfl⟩
  · rw [hr] at he; subst he
    conv => whnf
    refine ALoopR.loop (n := 1) ?_
    refine ALoopR.step (ip := false) tok ?_
    conv => whnf
    refine ADraw.of tok mixed false [0, 1, 2, 3, 4, 5, 6, 7, 8, 9, 10, 11, 12, 13, 14, 15, 16, 17, 18] [] (by kernel_rfl) (fun _ _ _ _ h => h) ?_
    conv => whnf
    have b0 : (e == 0) = false := by simpa using hne
    repeat (first | (refine acond_f (b0) ?_; conv => whnf))
    exact GhR.of ⟨hne, x0, I', o', rfl, rfl⟩
  rw [hr] at he
  replace he : r = pp false f (.orL x0) o (T.drop I0) := he
  conv => whnf
  refine ALoop.ind (ip := false) tok (fun m r1 H => ((∃ (g : Nat) (x : Ex) (I : Nat), m = g + 1 ∧ g ≤ f ∧ r = pp false g (.orL x) o (T.drop I) ∧ I < T.length ∧ H = [.c (rcl T I o 0 0)] ∧
    r1 = [(3, x.av), (0, pAV), (2, .p none)]) ∨ (m = 0 ∧ ∃ (p : Nat) (e : Int) (y : Ex) (I' o' : Int), r = .err p e ∧ e ≠ 0 ∧ H = [.c (rcl T I' o' p e)] ∧ r1 = [(3, y.av), (0, pAV), (2, .p none)]))) (f + 1) ?_ ?_
  · exact Gh.regs [3, 0, 2] (Gh.of (.inl ⟨f, x0, I0, rfl, Nat.le_refl _, he, hI0, rfl, rfl⟩))
  · rintro m r1 H (⟨g, x, I, rfl, hg, he, hI, rfl, rfl⟩ | ⟨rfl, p, e, y, I', o', rfl, hne, rfl, rfl⟩)
    · cases g with
      | zero => exact absurd he hout
      | succ g =>
      have hw : IntKind.i64.wrap ((I : Int) + 1) = ((I + 1 : Nat) : Int) := wrap_small (by omega) (by omega)
      replace he : r = if (hdT (T.drop I)).1 = wOr then nxt false (T.drop I) fun L => (pp false g .and o L).bind fun y L => pp false g (.orL (.nd 3 [] [] 0 x y)) o L else .ok x (T.drop I) := he
      conv => whnf
      refine ADraw.of tok mixed false [0, 1, 2, 3, 4, 5, 6, 7, 8, 9, 10, 11, 12, 13, 14, 15, 16, 17, 18] [] (by kernel_rfl) (fun _ _ _ _ h => h) ?_
      conv => whnf
      refine ⟨⟨by omega, by omega⟩, ?_⟩
      conv => whnf
      refine aget_hd0 (i := I) (by show 0 + ((I : Nat) : Int).toNat * 2 + 0 = _; omega) hI ?_
      conv => whnf
      by_cases c1 : (hdT (T.drop I)).1 = wOr
      · have b1 : ((hdT (T.drop I)).1 == wOr) = true := by rw [c1]; rfl
        rw [if_pos c1, nxt_lazy, tail_drop] at he
        have hI1 := hX.ends I hI (by rw [c1]; decide) (by rw [c1]; decide)
        repeat (first | (refine acond_t (b1) ?_; conv => whnf))
        refine ⟨Nat.le_of_ble_eq_true rfl, ?_⟩
        conv => whnf
        refine ACall.heq (H' := [.c (rcl T (I + 1 : Nat) o 0 0)]) (by show [Blk.c [_, .i .i64 (IntKind.i64.wrap _), _, _, _]] = _; rw [hw]; rfl) ?_
        refine ACall.mono (ih g (by omega) o (I + 1) ho hI1 trivial (fun e => hout (by rw [he, e]; rfl))) ?_
        intro R H hP
        rcases hP.cases with ⟨p, e, hr, hne, y, I', o', rfl, rfl⟩ | ⟨y, I', hr, hI', rfl, rfl⟩
        · rw [hr] at he
          obtain ⟨X, hX0⟩ : ∃ X, X = x := ⟨x, rfl⟩
          obtain ⟨Y, hY0⟩ : ∃ Y, Y = y := ⟨y, rfl⟩
          cases x <;> cases y <;> (
            conv => whnf
            refine Gh.regs [3, 0, 2] (Gh.frz 1 rfl (Gh.sel [0] rfl (Gh.of ⟨0, by omega, .inr ⟨rfl, p, e, .nd 3 [] [] 0 X Y, I', o', he, hne, ?_, ?_⟩⟩)))
            · show [Blk.c (AV.rs (subs _ (subs _ (toks T))) 0 2 T.length :: _)] = _
              rw [subs_toks, subs_toks]; rfl
            · show [(3, AV.rp [.i .i64 3, .s (sb []), .s (sb []), .i .i64 0, sub _ (Ex.av _), sub _ (Ex.av _)] 0), (0, pAV), (2, AV.p none)] = _
              subst hX0; subst hY0
              simp only [sub_av]; rfl)
        · rw [hr] at he
          obtain ⟨X, hX0⟩ : ∃ X, X = x := ⟨x, rfl⟩
          obtain ⟨Y, hY0⟩ : ∃ Y, Y = y := ⟨y, rfl⟩
          replace he : r = pp false g (.orL (.nd 3 [] [] 0 x y)) o (T.drop I') := he
          cases x <;> cases y <;> (
            conv => whnf
            refine Gh.regs [3, 0, 2] (Gh.frz 1 rfl (Gh.sel [0] rfl (Gh.of ⟨g + 1, by omega, .inl ⟨g, .nd 3 [] [] 0 X Y, I', rfl, by omega, ?_, hI', ?_, ?_⟩⟩)))
            · subst hX0; subst hY0; exact he
            · show [Blk.c (AV.rs (subs _ (subs _ (toks T))) 0 2 T.length :: _)] = _
              rw [subs_toks, subs_toks]; rfl
            · show [(3, AV.rp [.i .i64 3, .s (sb []), .s (sb []), .i .i64 0, sub _ (Ex.av _), sub _ (Ex.av _)] 0), (0, pAV), (2, AV.p none)] = _
              subst hX0; subst hY0
              simp only [sub_av]; rfl)
      · have b1 : ((hdT (T.drop I)).1 == wOr) = false := by simpa using c1
        rw [if_neg c1] at he
        subst he
        repeat (first | (refine acond_f (b1) ?_; conv => whnf))
        exact GhR.of ⟨I, hI, rfl, rfl, rfl⟩
    · conv => whnf
      refine ADraw.of tok mixed false [0, 1, 2, 3, 4, 5, 6, 7, 8, 9, 10, 11, 12, 13, 14, 15, 16, 17, 18] [] (by kernel_rfl) (fun _ _ _ _ h => h) ?_
      conv => whnf
      have b0 : (e == 0) = false := by simpa using hne
      repeat (first | (refine acond_f (b0) ?_; conv => whnf))
      exact GhR.of ⟨hne, y, I', o', rfl, rfl⟩
end Go.AK
namespace Go.AK
open Go Go.RowKit Go.Proofs
set_option linter.unusedVariables false
set_option maxRecDepth 100000
theorem compared_spec {T : List Tok} (hX : Lexed T) (hT : T.length < 100000) (hTl : ∀ I, I < T.length → (hdT (T.drop I)).1.length < 1000000) (w : Str) (o I : Nat) (hI : I < T.length) {r : PR}
    (he : r = if opsL.contains (hdT (T.drop I)).1 = true then nxt false (T.drop I) fun L2 => pnum false L2 fun n L3 => .ok (.nd 4 w (hdT (T.drop I)).1 n .nil .nil) L3 else .err (hdT (T.drop I)).2 11) :
    ACall Tryd.prog 65 [pAV, .s (sb w)] [.c (rcl T I o 0 0)] (RK T o r) := by
  have hw : IntKind.i64.wrap ((I : Int) + 1) = ((I + 1 : Nat) : Int) := wrap_small (by omega) (by omega)
  have hw2 : IntKind.i64.wrap (((I + 1 : Nat) : Int) + 1) = ((I + 1 + 1 : Nat) : Int) := wrap_small (by omega) (by omega)
  refine ACall.gh ?_
  refine ACall.enter tok false Tryd.func65 rfl rfl rfl (AW_sound (ip := false) tok _ _ _ _ ?_)
  conv => whnf
  refine ADraw.of tok mixed false [0, 1, 2, 3, 4, 5, 6, 7, 8, 9, 10, 11] [] (by kernel_rfl) (fun _ _ _ _ h => h) ?_
  conv => whnf
  refine ⟨⟨by omega, by omega⟩, ?_⟩
  conv => whnf
  refine aget_hd0 (i := I) (by show 0 + ((I : Nat) : Int).toNat * 2 + 0 = _; omega) hI ?_
  conv => whnf
  refine ACall.frameH [] [] rfl (args' := []) (Hc := []) rfl rfl opsR_spec ?_
  rintro r0 H0 ⟨rfl, rfl⟩
  refine ⟨.inl rfl, [.c (rcl T I o 0 0)], rfl, ?_⟩
  conv => whnf
  refine ACall.frameH [] [] rfl (args' := [.rs (strs opsR) 0 1 opsR.length, .s (sb (hdT (T.drop I)).1)]) (Hc := []) rfl rfl (in_spec opsR (hdT (T.drop I)).1 (by decide)) ?_
  rintro r0 H0 ⟨rfl, rfl⟩
  refine ⟨.inl rfl, [.c (rcl T I o 0 0)], rfl, ?_⟩
  conv => whnf
  by_cases c1 : opsR.contains (hdT (T.drop I)).1 = true
  · have c1' := c1
    rw [opsR_contains] at c1'
    rw [if_pos c1', nxt_lazy, tail_drop] at he
    have hI1 := hX.ends I hI (fun e => by rw [e] at c1; exact absurd c1 (by decide)) (fun e => by rw [e] at c1; exact absurd c1 (by decide))
    have b1 : (!(opsR.contains (hdT (T.drop I)).1)) = false := by rw [c1]; rfl
    repeat (first | (refine acond_f (b1) ?_; conv => whnf))
    refine ⟨Nat.le_of_ble_eq_true rfl, ?_⟩
    conv => whnf
    refine ADraw.to (r' := _) (H' := [.c (rcl T (I + 1 : Nat) o 0 0)]) rfl (by show [Blk.c [_, .i .i64 (IntKind.i64.wrap _), _, _, _]] = _; rw [hw]; rfl) ?_
    refine ADraw.of tok mixed false [0, 1, 2, 3, 4, 5, 6, 7, 8, 9, 10, 11] [] (by kernel_rfl) (fun _ _ _ _ h => h) ?_
    conv => whnf
    refine ⟨⟨by omega, by omega⟩, ?_⟩
    conv => whnf
    refine aget_hd0 (i := (I + 1)) (by show 0 + (((I + 1) : Nat) : Int).toNat * 2 + 0 = _; omega) hI1 ?_
    conv => whnf
    have hdg := hX.digs (I + 1) hI1
    have hl := hTl (I + 1) hI1
    have hends := hX.ends (I + 1) hI1
    generalize hdd : (hdT (T.drop (I + 1))).1 = d at hdg hl hends ⊢
    rw [pnum, hdd] at he
    cases d with
    | nil =>
      rw [if_pos (show badNum [] = true from rfl)] at he
      subst he
      repeat (first | (refine acond_t ((show ((([] : Str) == ([] : Str)) = true) from rfl)) ?_; conv => whnf))
      refine ACall.mono (fail_spec T (I + 1) o 0 11 hI1 (by omega) (.inr rfl)) ?_
      rintro r0 H0 ⟨rfl, rfl⟩
      conv => whnf
      exact GhR.of ⟨by decide, .nil, _, _, rfl, rfl⟩
    | cons c d =>
      have b2 : (((c :: d : Str)) == ([] : Str)) = false := rfl
      repeat (first | (refine acond_f (b2) ?_; conv => whnf))
      refine ⟨⟨by decide, by rw [sb_size, List.length_cons]; omega⟩, ?_⟩
      conv => whnf
      by_cases c3 : ((c.toNat : Nat) : Int) < 48
      · repeat (first | (refine acond_f (b2) ?_; conv => whnf) | (refine acond_t (decide_eq_true c3) ?_; conv => whnf))
        have hbn : badNum (c :: d) = true := by
          simp only [badNum, isDig]; rw [decide_eq_false (by omega)]; rfl
        rw [if_pos hbn] at he
        subst he
        refine ACall.mono (fail_spec T (I + 1) o 0 11 hI1 (by omega) (.inr rfl)) ?_
        rintro r0 H0 ⟨rfl, rfl⟩
        conv => whnf
        exact GhR.of ⟨by decide, .nil, _, _, rfl, rfl⟩
      repeat (first | (refine acond_f (b2) ?_; conv => whnf) | (refine acond_f (decide_eq_false c3) ?_; conv => whnf))
      refine ⟨⟨by decide, by rw [sb_size, List.length_cons]; omega⟩, ?_⟩
      conv => whnf
      by_cases c4 : ((c.toNat : Nat) : Int) > 57
      · repeat (first | (refine acond_f (b2) ?_; conv => whnf) | (refine acond_f (decide_eq_false c3) ?_; conv => whnf) | (refine acond_t (decide_eq_true c4) ?_; conv => whnf))
        have hbn : badNum (c :: d) = true := by
          simp only [badNum, isDig]; rw [decide_eq_false (show ¬ c.toNat ≤ 57 by omega), Bool.and_false]; rfl
        rw [if_pos hbn] at he
        subst he
        refine ACall.mono (fail_spec T (I + 1) o 0 11 hI1 (by omega) (.inr rfl)) ?_
        rintro r0 H0 ⟨rfl, rfl⟩
        conv => whnf
        exact GhR.of ⟨by decide, .nil, _, _, rfl, rfl⟩
      repeat (first | (refine acond_f (b2) ?_; conv => whnf) | (refine acond_f (decide_eq_false c3) ?_; conv => whnf) | (refine acond_f (decide_eq_false c4) ?_; conv => whnf))
      refine ⟨⟨by decide, by rw [sb_size, List.length_cons]; omega⟩, ?_⟩
      conv => whnf
      have hdig : isDig c = true := by
        unfold isDig; rw [decide_eq_true (show 48 ≤ c.toNat by omega), decide_eq_true (show c.toNat ≤ 57 by omega)]; rfl
      have hc48 : (c == 48) = decide (((c.toNat : Nat) : Int) = 48) := by
        rw [Bool.eq_iff_iff, beq_iff_eq, decide_eq_true_iff, ← UInt8.toNat_inj]
        show _ = 48 ↔ _
        omega
      have hde : d.isEmpty = decide (¬ (((c :: d : Str).length : Nat) : Int) > 1) := by
        cases d with
        | nil => rfl
        | cons a d => symm; exact decide_eq_false (by simp only [List.length_cons]; omega)
      have hbnE : badNum (c :: d) = (decide (((c.toNat : Nat) : Int) = 48) && !decide (¬ (((c :: d : Str).length : Nat) : Int) > 1)) := by
        simp only [badNum]; rw [hdig, hc48, hde]; rfl
      have fin : badNum (c :: d) = false → ∀ k : ARes → Heap → Prop,
          (∀ R H, (R = .ret (.tup [.i .i64 0, .b false]) ∧ H = [] ∧ 9223372036854775807 < valD (c :: d)) ∨ (R = .ret (.tup [.i .i64 (valD (c :: d)), .b true]) ∧ H = [] ∧ ¬ 9223372036854775807 < valD (c :: d)) → k R H) →
          ACall Tryd.prog 71 [.s (sb (c :: d))] [] k := by
        intro hbn k hk
        refine ACall.mono (value_spec (c :: d) (hdg hbn) hl) fun R H h => ?_
        by_cases hv : 9223372036854775807 < valD (c :: d)
        · rw [if_pos hv] at h; exact hk R H (.inl ⟨h.1, h.2, hv⟩)
        · rw [if_neg hv] at h; exact hk R H (.inr ⟨h.1, h.2, hv⟩)
      by_cases c5 : ((c.toNat : Nat) : Int) = 48
      · have b5 : (((c.toNat : Nat) : Int) == 48) = true := by simpa using c5
        by_cases c6 : (((sb (c :: d)).size : Nat) : Int) > 1
        · repeat (first | (refine acond_f (b2) ?_; conv => whnf) | (refine acond_f (decide_eq_false c3) ?_; conv => whnf) | (refine acond_f (decide_eq_false c4) ?_; conv => whnf) | (refine acond_t (b5) ?_; conv => whnf) | (refine acond_t (decide_eq_true c6) ?_; conv => whnf))
          have hbn : badNum (c :: d) = true := by
            rw [hbnE, decide_eq_true c5, decide_eq_false (by rw [sb_size] at c6; omega)]; rfl
          rw [if_pos hbn] at he
          subst he
          refine ACall.mono (fail_spec T (I + 1) o 0 11 hI1 (by omega) (.inr rfl)) ?_
          rintro r0 H0 ⟨rfl, rfl⟩
          conv => whnf
          exact GhR.of ⟨by decide, .nil, _, _, rfl, rfl⟩
        · repeat (first | (refine acond_f (b2) ?_; conv => whnf) | (refine acond_f (decide_eq_false c3) ?_; conv => whnf) | (refine acond_f (decide_eq_false c4) ?_; conv => whnf) | (refine acond_t (b5) ?_; conv => whnf) | (refine acond_f (decide_eq_false c6) ?_; conv => whnf))
          have hbn : badNum (c :: d) = false := by
            rw [hbnE, decide_eq_true c5, decide_eq_true (by rw [sb_size] at c6; omega)]; rfl
          rw [if_neg (show ¬ badNum (c :: d) = true by rw [hbn]; decide)] at he
          refine ACall.frameH [] [] rfl (args' := [.s (sb (c :: d))]) (Hc := []) rfl rfl (fin hbn _ (fun _ _ h => h)) ?_
          rintro r0 H0 (⟨rfl, rfl, hv⟩ | ⟨rfl, rfl, hv⟩)
          · refine ⟨.inl rfl, [.c (rcl T (I + 1 : Nat) o 0 0)], rfl, ?_⟩
            rw [if_pos hv] at he
            subst he
            conv => whnf
            refine ACall.mono (fail_spec T (I + 1) o 0 10 hI1 (by omega) (.inl (by rw [hdd]; intro e; rw [e] at hbn; exact absurd hbn (by decide)))) ?_
            rintro r0 H0 ⟨rfl, rfl⟩
            conv => whnf
            exact GhR.of ⟨by decide, .nil, _, _, rfl, rfl⟩
          · refine ⟨.inl rfl, [.c (rcl T (I + 1 : Nat) o 0 0)], rfl, ?_⟩
            have hI2 := hends (by simp) (by intro e; rw [e] at hbn; exact absurd hbn (by decide))
            rw [if_neg hv, nxt_lazy, tail_drop] at he
            subst he
            conv => whnf
            refine ⟨Nat.le_of_ble_eq_true rfl, ?_⟩
            conv => whnf
            refine GhR.frz 1 rfl (GhR.sel [0] rfl (GhR.of ⟨I + 1 + 1, hI2, rfl, rfl, ?_⟩))
            show [Blk.c [AV.rs (subs _ (subs _ (toks T))) 0 2 T.length, .i .i64 (IntKind.i64.wrap _), _, _, _]] = _
            rw [subs_toks, subs_toks, hw2]; rfl
      · have b5 : (((c.toNat : Nat) : Int) == 48) = false := by simpa using c5
        repeat (first | (refine acond_f (b2) ?_; conv => whnf) | (refine acond_f (decide_eq_false c3) ?_; conv => whnf) | (refine acond_f (decide_eq_false c4) ?_; conv => whnf) | (refine acond_f (b5) ?_; conv => whnf))
        have hbn : badNum (c :: d) = false := by rw [hbnE, decide_eq_false c5]; rfl
        rw [if_neg (show ¬ badNum (c :: d) = true by rw [hbn]; decide)] at he
        refine ACall.frameH [] [] rfl (args' := [.s (sb (c :: d))]) (Hc := []) rfl rfl (fin hbn _ (fun _ _ h => h)) ?_
        rintro r0 H0 (⟨rfl, rfl, hv⟩ | ⟨rfl, rfl, hv⟩)
        · refine ⟨.inl rfl, [.c (rcl T (I + 1 : Nat) o 0 0)], rfl, ?_⟩
          rw [if_pos hv] at he
          subst he
          conv => whnf
          refine ACall.mono (fail_spec T (I + 1) o 0 10 hI1 (by omega) (.inl (by rw [hdd]; intro e; rw [e] at hbn; exact absurd hbn (by decide)))) ?_
          rintro r0 H0 ⟨rfl, rfl⟩
          conv => whnf
          exact GhR.of ⟨by decide, .nil, _, _, rfl, rfl⟩
        · refine ⟨.inl rfl, [.c (rcl T (I + 1 : Nat) o 0 0)], rfl, ?_⟩
          have hI2 := hends (by simp) (by intro e; rw [e] at hbn; exact absurd hbn (by decide))
          rw [if_neg hv, nxt_lazy, tail_drop] at he
          subst he
          conv => whnf
          refine ⟨Nat.le_of_ble_eq_true rfl, ?_⟩
          conv => whnf
          refine GhR.frz 1 rfl (GhR.sel [0] rfl (GhR.of ⟨I + 1 + 1, hI2, rfl, rfl, ?_⟩))
          show [Blk.c [AV.rs (subs _ (subs _ (toks T))) 0 2 T.length, .i .i64 (IntKind.i64.wrap _), _, _, _]] = _
          rw [subs_toks, subs_toks, hw2]; rfl
  · have c1' := c1
    rw [opsR_contains] at c1'
    rw [if_neg c1'] at he
    subst he
    have b1 : (!(opsR.contains (hdT (T.drop I)).1)) = true := by rw [Bool.eq_false_iff.2 c1]; rfl
    repeat (first | (refine acond_t (b1) ?_; conv => whnf))
    refine ACall.mono (fail_spec T (I) o 0 11 hI (by omega) (.inr rfl)) ?_
    rintro r0 H0 ⟨rfl, rfl⟩
    conv => whnf
    exact GhR.of ⟨by decide, .nil, _, _, rfl, rfl⟩
end Go.AK
