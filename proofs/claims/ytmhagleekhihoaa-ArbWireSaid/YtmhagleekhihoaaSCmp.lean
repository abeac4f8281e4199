import Derived.Test.YtmhagleekhihoaaSArb
namespace Go.AK
open Go Go.RowKit Go.Proofs
set_option linter.unusedVariables false
set_option maxRecDepth 100000
theorem VLe.nilrow {z : Nat} {xs ys : List AV} (h : VLe xs ys) : VLe (.sl none z 0 0 :: xs) (.rs (ints []) 0 1 0 :: ys) := by
  rintro E vs ⟨v, vs', h1, h2, h3⟩
  exact ⟨v, vs', h1, .inl ⟨rfl, none, 0, h2.2.2⟩, h E _ h3⟩
def cmpI (a b : Int) : Int := if a < b then -1 else if a > b then 1 else 0
def cmpL : List Int → List Int → Int
  | [], [] => 0
  | [], _ :: _ => -1
  | _ :: _, [] => 1
  | a :: L, b :: M => if cmpI a b = 0 then cmpL L M else cmpI a b
theorem cmpL_nil (M : List Int) : cmpL [] M = if M.length = 0 then 0 else -1 := by cases M <;> rfl
theorem isNaN_spec (a : Int) : ACall Try.prog 87 [.i .i64 a] [] fun r H => r = .ret (.b false) ∧ H = [] := by
  refine ACall.enter tok false Try.func87 rfl rfl rfl (AW_sound (ip := false) tok _ _ _ _ ?_)
  conv => whnf
  refine ⟨?_, rfl⟩
  simp [bne]
theorem cmp_spec (a b : Int) : ACall Try.prog 75 [.i .i64 a, .i .i64 b] [] fun r H => r = .ret (.i .i64 (cmpI a b)) ∧ H = [] := by
  refine ACall.enter tok false Try.func75 rfl rfl rfl (AW_sound (ip := false) tok _ _ _ _ ?_)
  conv => whnf
  refine ACall.mono (isNaN_spec a) ?_; rintro r H ⟨rfl, rfl⟩
  conv => whnf
  refine ACall.mono (isNaN_spec b) ?_; rintro r H ⟨rfl, rfl⟩
  conv => whnf
  unfold cmpI
  by_cases h : a < b
  · rw [decide_eq_true h, if_pos h]
    conv => whnf
    exact ⟨rfl, rfl⟩
  · rw [decide_eq_false h, if_neg h]
    conv => whnf
    by_cases h : a > b
    · rw [decide_eq_true h, if_pos h]
      conv => whnf
      exact ⟨rfl, rfl⟩
    · rw [decide_eq_false h, if_neg h]
      conv => whnf
      exact ⟨rfl, rfl⟩
theorem compareL_spec (L M : List Int) (hL : L.length < 1000000) (hM : M.length < 1000000) :
    ACall Try.prog 66 [.rs (ints L) 0 1 L.length, .rs (ints M) 0 1 M.length] [] fun r H => r = .ret (.i .i64 (cmpL L M)) ∧ H = [] := by
  refine ACall.enter tok false Try.func66 rfl rfl rfl (AW_sound (ip := false) tok _ _ _ _ ?_)
  conv => whnf
  refine ALoop.ind (ip := false) tok (fun m r H => ∃ (k : Nat), k ≤ L.length ∧ k ≤ M.length ∧ m = L.length - k ∧ cmpL L M = cmpL (L.drop k) (M.drop k) ∧ H = [] ∧
    r = [(11, .i .i64 k), (10, .i .i64 L.length), (9, .rs (ints L) 0 1 L.length), (0, .rs (ints L) 0 1 L.length), (1, .rs (ints M) 0 1 M.length), (4, .i .i64 0)]) L.length ?_ ?_
  · exact Gh.regs [11, 10, 9, 0, 1, 4] (Gh.of ⟨0, by omega, by omega, by omega, rfl, rfl, rfl⟩)
  · rintro m r H ⟨k, hk, hk2, rfl, hc, rfl, rfl⟩
    conv => whnf
    by_cases h : (k : Int) < L.length
    · rw [decide_eq_true h]
      conv => whnf
      refine ⟨⟨by omega, h⟩, ?_⟩
      conv => whnf
      rw [show (0 + (k : Int).toNat * 1) = k from by omega]
      refine aget_nums (by omega) ?_
      conv => whnf
      have hkl : k < L.length := by omega
      rw [List.drop_eq_getElem_cons hkl] at hc
      by_cases h2 : (k : Int) ≥ M.length
      · rw [decide_eq_true h2]
        conv => whnf
        have : k = M.length := by omega
        subst this
        rw [hc, List.drop_length]
        exact ⟨rfl, rfl⟩
      · rw [decide_eq_false h2]
        conv => whnf
        refine ⟨⟨by omega, by omega⟩, ?_⟩
        conv => whnf
        rw [show (0 + (k : Int).toNat * 1) = k from by omega]
        have hkm : k < M.length := by omega
        rw [List.drop_eq_getElem_cons hkm, cmpL] at hc
        refine aget_nums (by omega) ?_
        conv => whnf
        refine ACall.mono (cmp_spec _ _) ?_; rintro r H ⟨rfl, rfl⟩
        conv => whnf
        by_cases h3 : cmpI L[k] M[k] = 0
        · rw [if_pos h3] at hc
          rw [show (cmpI L[k] M[k] != 0) = false from by rw [h3]; rfl]
          conv => whnf
          rw [w64 (by omega) (by omega)]
          refine Gh.regs [11, 10, 9, 0, 1, 4] (Gh.of ⟨_, ?_, k + 1, by omega, by omega, rfl, hc, rfl, rfl⟩)
          omega
        · rw [if_neg h3] at hc
          rw [show (cmpI L[k] M[k] != 0) = true from bne_iff_ne.2 h3]
          conv => whnf
          rw [hc]
          exact ⟨rfl, rfl⟩
    · rw [decide_eq_false h]
      conv => whnf
      have : k = L.length := by omega
      subst this
      rw [hc, List.drop_length, cmpL_nil, List.length_drop]
      by_cases h2 : (L.length : Int) < M.length
      · rw [decide_eq_true h2, if_neg (by omega)]
        conv => whnf
        exact ⟨rfl, rfl⟩
      · rw [decide_eq_false h2, if_pos (by omega)]
        conv => whnf
        exact ⟨rfl, rfl⟩
def Fr.rw (F : Fr) : List Int := if F.may then F.row else []
theorem Fr.row_le (F : Fr) : F.row.length ≤ 32 := by
  unfold Fr.row
  split <;> simp [ofI_length]
theorem Fr.rw_le (F : Fr) : F.rw.length ≤ 32 := by
  unfold Fr.rw
  split
  · exact F.row_le
  · simp
def frcmp (F G : Fr) : Int := cmpL F.rw G.rw
theorem comp_spec (F G : Fr) (hF : F.ok) (hG : G.ok) : ACall Try.prog 50 [F.av, G.av] [] fun r H => r = .ret (.tup [.i .i64 (frcmp F G), .b (decide (F.may ∧ G.may))]) ∧ H = [] := by
  refine ACall.gh ?_
  refine ACall.enter tok false Try.func50 rfl rfl rfl (AW_sound (ip := false) tok _ _ _ _ ?_)
  conv => whnf
  have hf : F.may → F.rw = F.row := fun h => if_pos h
  have hf' : ¬F.may → F.rw = [] := fun h => if_neg h
  have hg : G.may → G.rw = G.row := fun h => if_pos h
  have hg' : ¬G.may → G.rw = [] := fun h => if_neg h
  refine ACall.frame [] [] rfl (args' := [F.av]) (Hc := []) rfl rfl (arb_spec F hF) ?_
  rintro r H (⟨hm, rfl, rfl⟩ | ⟨hm, c, hc, rfl, rfl⟩)
  · refine ⟨.inl rfl, ?_⟩
    conv => whnf
    refine ACall.frame [] [] rfl (args' := [G.av]) (Hc := []) rfl rfl (arb_spec G hG) ?_
    rintro r H (⟨hn, rfl, rfl⟩ | ⟨hn, d, hd, rfl, rfl⟩)
    · refine ⟨.inl rfl, ?_⟩
      conv => whnf
      refine ACall.frame [] [] rfl (args' := [.sl none 0 0 0, .sl none 0 0 0]) (Hc := []) ?_ rfl (ACall.args (compareL_spec [] [] (by simp) (by simp)) (VLe.nilrow (VLe.nilrow VLe.nil))) ?_
      · rfl
      rintro r H ⟨rfl, rfl⟩
      refine ⟨.inr ⟨rfl, rfl⟩, ?_⟩
      conv => whnf
      refine GhR.sel [] rfl (GhR.of ⟨?_, rfl⟩)
      rw [frcmp, hf' hm, hg' hn, decide_eq_false (by exact fun h => hm h.1)]
      rfl
    · refine ⟨.inl rfl, ?_⟩
      conv => whnf
      refine ACall.frame [] [2] rfl (args' := [.sl none 0 0 0, .rs (ints G.row) 0 1 G.row.length]) (Hc := []) ?_ rfl (ACall.args (compareL_spec [] G.row (by simp) (by have := G.row_le; omega)) (VLe.nilrow (VLe.cons VLe.nil))) ?_
      · show [AV.sl none 0 0 0, .rs (subs _ (subs _ (ints G.row))) 0 1 G.row.length] = _
        simp only [subs_nums]
      rintro r H ⟨rfl, rfl⟩
      refine ⟨.inr ⟨rfl, rfl⟩, ?_⟩
      conv => whnf
      refine GhR.sel [] rfl (GhR.of ⟨?_, rfl⟩)
      rw [frcmp, hf' hm, hg hn, decide_eq_false (by exact fun h => hm h.1)]
      rfl
  · refine ⟨.inl rfl, ?_⟩
    conv => whnf
    refine ACall.frame [] [] rfl (args' := [G.av]) (Hc := []) rfl rfl (arb_spec G hG) ?_
    rintro r H (⟨hn, rfl, rfl⟩ | ⟨hn, d, hd, rfl, rfl⟩)
    · refine ⟨.inl rfl, ?_⟩
      conv => whnf
      refine ACall.frame [] [2] rfl (args' := [.rs (ints F.row) 0 1 F.row.length, .sl none 0 0 0]) (Hc := []) ?_ rfl (ACall.args (compareL_spec F.row [] (by have := F.row_le; omega) (by simp)) (VLe.cons (VLe.nilrow VLe.nil))) ?_
      · show [AV.rs (subs _ (subs _ (ints F.row))) 0 1 F.row.length, .sl none 0 0 0] = _
        simp only [subs_nums]
      rintro r H ⟨rfl, rfl⟩
      refine ⟨.inr ⟨rfl, rfl⟩, ?_⟩
      conv => whnf
      refine GhR.sel [] rfl (GhR.of ⟨?_, rfl⟩)
      rw [frcmp, hf hm, hg' hn, decide_eq_false (by exact fun h => hn h.2)]
      rfl
    · refine ⟨.inl rfl, ?_⟩
      conv => whnf
      refine ACall.frame [] [2, 3] rfl (args' := [.rs (ints F.row) 0 1 F.row.length, .rs (ints G.row) 0 1 G.row.length]) (Hc := []) ?_ rfl (ACall.args (compareL_spec F.row G.row (by have := F.row_le; omega) (by have := G.row_le; omega)) (VLe.cons (VLe.cons VLe.nil))) ?_
      · show [AV.rs (subs _ (subs _ (ints F.row))) 0 1 F.row.length, .rs (subs _ (subs _ (ints G.row))) 0 1 G.row.length] = _
        simp only [subs_nums]
      rintro r H ⟨rfl, rfl⟩
      refine ⟨.inr ⟨rfl, rfl⟩, ?_⟩
      conv => whnf
      refine GhR.sel [] rfl (GhR.of ⟨?_, rfl⟩)
      rw [frcmp, hf hm, hg hn, decide_eq_true (by exact ⟨hm, hn⟩)]
      rfl
def Fr.less (F G : Fr) : Bool := decide (F.may ∧ G.may) && decide (frcmp F G < 0)
def Fr.rival (F G : Fr) : Bool := decide (F.may ∧ G.may) && decide (frcmp F G = 0)
theorem less_spec (F G : Fr) (hF : F.ok) (hG : G.ok) : ACall Try.prog 27 [F.av, G.av] [] fun r H => r = .ret (.b (F.less G)) ∧ H = [] := by
  refine ACall.gh ?_
  refine ACall.enter tok false Try.func27 rfl rfl rfl (AW_sound (ip := false) tok _ _ _ _ ?_)
  conv => whnf
  refine ACall.frame [] [] rfl (args' := [F.av, G.av]) (Hc := []) rfl rfl (comp_spec F G hF hG) ?_
  rintro r H ⟨rfl, rfl⟩
  refine ⟨.inl rfl, ?_⟩
  conv => whnf
  unfold Fr.less
  cases hm : decide (F.may ∧ G.may)
  · conv => whnf
    exact GhR.sel [] rfl (GhR.of ⟨rfl, rfl⟩)
  · conv => whnf
    exact GhR.sel [] rfl (GhR.of ⟨rfl, rfl⟩)
theorem rival_spec (F G : Fr) (hF : F.ok) (hG : G.ok) : ACall Try.prog 29 [F.av, G.av] [] fun r H => r = .ret (.b (F.rival G)) ∧ H = [] := by
  refine ACall.gh ?_
  refine ACall.enter tok false Try.func29 rfl rfl rfl (AW_sound (ip := false) tok _ _ _ _ ?_)
  conv => whnf
  refine ACall.frame [] [] rfl (args' := [F.av, G.av]) (Hc := []) rfl rfl (comp_spec F G hF hG) ?_
  rintro r H ⟨rfl, rfl⟩
  refine ⟨.inl rfl, ?_⟩
  conv => whnf
  unfold Fr.rival
  cases hm : decide (F.may ∧ G.may)
  · conv => whnf
    exact GhR.sel [] rfl (GhR.of ⟨rfl, rfl⟩)
  · conv => whnf
    exact GhR.sel [] rfl (GhR.of ⟨rfl, rfl⟩)
end Go.AK
