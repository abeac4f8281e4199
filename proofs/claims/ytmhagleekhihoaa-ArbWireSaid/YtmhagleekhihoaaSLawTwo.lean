import Derived.Test.YtmhagleekhihoaaSLawOrders
namespace Go.AK
open Go Go.RowKit Go.Proofs
set_option linter.unusedVariables false
set_option maxRecDepth 100000
theorem two_cases {F G : Fr} {v : Int} (h : ChkR [F, G] v) : (v = 14 ∧ ¬(F.may ∧ G.may)) ∨ (v = 23 ∧ (F.may ∧ G.may) ∧ F.row = G.row) ∨ (v = 0 ∧ (F.may ∧ G.may) ∧ F.row ≠ G.row) := by
  rcases h with ⟨rfl, X, hX, hn⟩ | ⟨rfl, hm, i, hi, hr⟩ | ⟨rfl, hm, hr⟩
  · refine .inl ⟨rfl, fun h => hn ?_⟩
    rcases List.mem_cons.1 hX with rfl | hX
    · exact h.1
    · rw [List.mem_singleton.1 hX]; exact h.2
  · have hF := hm F (by simp)
    have hG := hm G (by simp)
    refine .inr (.inl ⟨rfl, ⟨hF, hG⟩, ?_⟩)
    match i, hi, hr with
    | 0, hi, hr => simp at hr
    | 1, hi, hr =>
      simp at hr
      exact ((rival_rows hG hF).1 hr).symm
    | i + 2, hi, hr => exact absurd hi (by show ¬ (i + 2 < 2); omega)
  · have hF := hm F (by simp)
    have hG := hm G (by simp)
    refine .inr (.inr ⟨rfl, ⟨hF, hG⟩, fun e => ?_⟩)
    have := hr 1 (by simp)
    simp at this
    have h2 := (rival_rows hG hF).2 e.symm
    rw [h2] at this; cases this
theorem two_same {F G : Fr} {v u : Int} (h : ChkR [F, G] v) (k : ChkR [G, F] u) : v = u := by
  rcases two_cases h with ⟨e, a⟩ | ⟨e, a, a2⟩ | ⟨e, a, a2⟩ <;> rcases two_cases k with ⟨e2, b⟩ | ⟨e2, b, b2⟩ | ⟨e2, b, b2⟩ <;> rw [e, e2]
  · exact absurd b.symm a
  · exact absurd b.symm a
  · exact absurd a.symm b
  · exact absurd a2.symm b2
  · exact absurd a.symm b
  · exact absurd b2.symm a2
theorem losesL_cmp : ∀ (L M : List Int) (k : Int), 0 ≤ k → isLv L → isLv M → 0 ≤ placeL L M k → (losesL L M k < 0 ↔ cmpL L M < 0)
  | [], M, k, _, _, _, h => by rw [placeL_end (.inl rfl)] at h; omega
  | a :: L, [], k, _, _, _, h => by rw [placeL_end (.inr rfl)] at h; omega
  | a :: L, b :: M, k, hk, hl, hm, h => by
    have h1 := isLv_cons.1 hl
    have h2 := isLv_cons.1 hm
    rw [cmpL_cons]
    unfold losesL
    unfold placeL at h
    by_cases e : a = b
    · rw [if_pos e] at h ⊢
      rw [losesL_cmp L M (k + 1) (by omega) h1.2 h2.2 h]
      constructor
      · exact fun h => .inr ⟨e, h⟩
      · rintro (h | ⟨_, h⟩)
        · omega
        · exact h
    · rw [if_neg e]
      rcases h1.1 with rfl | rfl <;> rcases h2.1 with rfl | rfl
      · exact absurd rfl e
      · simp
      · simp; omega
      · exact absurd rfl e
theorem losesL_ge : ∀ (L M : List Int) (k : Int), 0 ≤ k → -1 ≤ losesL L M k
  | [], M, k, _ => by simp [losesL]
  | a :: L, [], k, _ => by simp [losesL]
  | a :: L, b :: M, k, hk => by
    unfold losesL
    split
    · exact losesL_ge L M _ (by omega)
    · split <;> omega
theorem loses_lt {F G : Fr} (h : F.row ≠ G.row) : losesL F.row G.row 0 < 0 ↔ cmpL F.row G.row < 0 :=
  losesL_cmp _ _ 0 (by omega) (row_lv F) (row_lv G) (Int.not_lt.1 fun e => h (place_rows.1 e))
theorem less_rows {F G : Fr} (h : F.may ∧ G.may) : F.less G = decide (cmpL F.row G.row < 0) := by
  unfold Fr.less frcmp Fr.rw
  rw [if_pos h.1, if_pos h.2, decide_eq_true h, Bool.true_and]
theorem rival_eq {F G : Fr} (h : F.may ∧ G.may) : F.rival G = decide (F.row = G.row) := by
  by_cases e : F.row = G.row
  · rw [(rival_rows h.1 h.2).2 e, decide_eq_true e]
  · rw [decide_eq_false e]
    cases h2 : F.rival G
    · rfl
    · exact absurd ((rival_rows h.1 h.2).1 h2) e
set_option maxHeartbeats 2000000 in
theorem lawTwo (F : Fr) (hF : F.ok) (G : Fr) (hG : G.ok) (X : Fr) (hX : X.ok) : ACall Try.prog 12 [F.av, G.av, X.av] [] fun r H => r = .ret (.b true) ∧ H = [] := by
  refine ACall.gh ?_
  refine ACall.enter tok false Try.func12 rfl rfl rfl (AW_sound (ip := false) tok _ _ _ _ ?_)
  conv => whnf
  refine ACall.frame [] [] rfl (args' := [F.av, G.av]) (Hc := []) rfl rfl (loses_spec F G hF hG) ?_
  rintro r H ⟨v, hv, rfl, rfl⟩
  refine ⟨.inl rfl, ?_⟩
  generalize hN : (if v = 0 then losesL F.row G.row 0 else 0) = N
  conv => whnf
  refine ACall.frame [] [] rfl (args' := [G.av, F.av]) (Hc := []) rfl rfl (loses_spec G F hG hF) ?_
  rintro r H ⟨u, hu, rfl, rfl⟩
  refine ⟨.inl rfl, ?_⟩
  obtain rfl := two_same hv hu
  generalize hM : (if v = 0 then losesL G.row F.row 0 else 0) = M
  conv => whnf
  refine acond_f (t := v != v) (by simp) ?_
  conv => whnf
  rcases two_cases hv with ⟨rfl, h⟩ | ⟨rfl, h, h2⟩ | ⟨rfl, h, h2⟩
  · obtain rfl : N = 0 := by rw [← hN]; rfl
    obtain rfl : M = 0 := by rw [← hM]; rfl
    conv => whnf
    refine ACall.frame [] [] rfl (args' := [F.av]) (Hc := []) rfl rfl (check_spec F hF) ?_
    rintro r H ⟨rfl, rfl⟩
    refine ⟨.inl rfl, ?_⟩
    by_cases hf : F.may
    · rw [Fr.good hf]
      conv => whnf
      refine ACall.frame [] [] rfl (args' := [G.av]) (Hc := []) rfl rfl (check_spec G hG) ?_
      rintro r H ⟨rfl, rfl⟩
      refine ⟨.inl rfl, ?_⟩
      rw [Fr.bad fun hg => h ⟨hf, hg⟩]
      conv => whnf
      refine ACall.frame [] [] rfl (args' := []) (Hc := []) rfl rfl awake_spec ?_
      rintro r H ⟨rfl, rfl⟩
      refine ⟨.inl rfl, ?_⟩
      conv => whnf
      exact GhR.sel [] rfl (GhR.of ⟨rfl, rfl⟩)
    · rw [Fr.bad hf]
      conv => whnf
      refine ACall.frame [] [] rfl (args' := []) (Hc := []) rfl rfl awake_spec ?_
      rintro r H ⟨rfl, rfl⟩
      refine ⟨.inl rfl, ?_⟩
      conv => whnf
      exact GhR.sel [] rfl (GhR.of ⟨rfl, rfl⟩)
  · obtain rfl : N = 0 := by rw [← hN]; rfl
    obtain rfl : M = 0 := by rw [← hM]; rfl
    conv => whnf
    refine ACall.frame [] [] rfl (args' := [F.av]) (Hc := []) rfl rfl (check_spec F hF) ?_
    rintro r H ⟨rfl, rfl⟩
    refine ⟨.inl rfl, ?_⟩
    rw [Fr.good h.1]
    conv => whnf
    refine ACall.frame [] [] rfl (args' := [G.av]) (Hc := []) rfl rfl (check_spec G hG) ?_
    rintro r H ⟨rfl, rfl⟩
    refine ⟨.inl rfl, ?_⟩
    rw [Fr.good h.2]
    conv => whnf
    refine ACall.frame [] [] rfl (args' := [F.av, G.av]) (Hc := []) rfl rfl (rival_spec F G hF hG) ?_
    rintro r H ⟨rfl, rfl⟩
    refine ⟨.inl rfl, ?_⟩
    rw [rival_eq h, decide_eq_true h2]
    conv => whnf
    refine ACall.frame [] [] rfl (args' := []) (Hc := []) rfl rfl awake_spec ?_
    rintro r H ⟨rfl, rfl⟩
    refine ⟨.inl rfl, ?_⟩
    conv => whnf
    exact GhR.sel [] rfl (GhR.of ⟨rfl, rfl⟩)
  · rw [if_pos rfl] at hN hM
    have hNl := loses_lt h2
    have hMl := loses_lt (fun e => h2 e.symm)
    have hNg := losesL_ge F.row G.row 0 (by omega)
    have hMg := losesL_ge G.row F.row 0 (by omega)
    rw [hN] at hNl hNg
    rw [hM] at hMl hMg
    have hfl := cmpL_flip F.row G.row
    have hz : cmpL F.row G.row ≠ 0 := fun e => h2 (cmpL_zero.1 e)
    have e1 : (decide (N < 0) == decide (M < 0)) = false := by
      rw [beq_eq_false_iff_ne]
      intro e
      rw [decide_eq_decide] at e
      omega
    have e2 : (decide (N < 0) != F.less G) = false := by
      rw [less_rows h, bne_eq_false_iff_eq, decide_eq_decide]; exact hNl
    have e3 : decide (N < -1) = false := decide_eq_false (by omega)
    have e4 : decide (M < -1) = false := decide_eq_false (by omega)
    conv => whnf
    repeat (refine acond_f e1 ?_; conv => whnf)
    refine ACall.frame [] [] rfl (args' := [F.av, G.av]) (Hc := []) rfl rfl (less_spec F G hF hG) ?_
    rintro r H ⟨rfl, rfl⟩
    refine ⟨.inl rfl, ?_⟩
    conv => whnf
    repeat (first | (refine acond_f e1 ?_; conv => whnf) | (refine acond_f e2 ?_; conv => whnf) | (refine acond_f e3 ?_; conv => whnf) | (refine acond_f e4 ?_; conv => whnf))
    refine ACall.frame [] [] rfl (args' := [G.av, X.av]) (Hc := []) rfl rfl (loses_spec G X hG hX) ?_
    rintro r H ⟨v, hv2, rfl, rfl⟩
    refine ⟨.inl rfl, ?_⟩
    generalize hK : (if v = 0 then losesL G.row X.row 0 else 0) = K
    conv => whnf
    refine ACall.frame [] [] rfl (args' := [F.av, X.av]) (Hc := []) rfl rfl (loses_spec F X hF hX) ?_
    rintro r H ⟨u, hu2, rfl, rfl⟩
    refine ⟨.inl rfl, ?_⟩
    generalize hJ : (if u = 0 then losesL F.row X.row 0 else 0) = J
    conv => whnf
    by_cases c1 : v = 0
    · by_cases c2 : u = 0
      · by_cases c3 : N < 0
        · by_cases c4 : K < 0
          · have hJ0 : J < 0 := by
              rcases two_cases hv2 with ⟨e, _⟩ | ⟨e, _⟩ | ⟨_, h3, h4⟩
              · omega
              · omega
              rcases two_cases hu2 with ⟨e, _⟩ | ⟨e, _⟩ | ⟨_, h5, h6⟩
              · omega
              · omega
              rw [if_pos c1] at hK
              rw [if_pos c2] at hJ
              rw [← hJ, loses_lt h6]
              rw [← hK, loses_lt h4] at c4
              exact cmpL_trans (hNl.1 c3) c4
            have f1 : (v != 0) = false := by rw [c1]; rfl
            have f2 : (u != 0) = false := by rw [c2]; rfl
            have f3 : decide (N ≥ 0) = false := decide_eq_false (by omega)
            have f4 : decide (K ≥ 0) = false := decide_eq_false (by omega)
            repeat (first | (refine acond_f f1 ?_; conv => whnf) | (refine acond_f f2 ?_; conv => whnf) | (refine acond_f f3 ?_; conv => whnf) | (refine acond_f f4 ?_; conv => whnf))
            repeat (refine acond_t (decide_eq_true hJ0) ?_; conv => whnf)
            refine ACall.frame [] [] rfl (args' := []) (Hc := []) rfl rfl awake_spec ?_
            rintro r H ⟨rfl, rfl⟩
            refine ⟨.inl rfl, ?_⟩
            conv => whnf
            repeat (refine acond_t (decide_eq_true hJ0) ?_; conv => whnf)
            exact GhR.sel [] rfl (GhR.of ⟨rfl, rfl⟩)
          · have f1 : (v != 0) = false := by rw [c1]; rfl
            have f2 : (u != 0) = false := by rw [c2]; rfl
            have f3 : decide (N ≥ 0) = false := decide_eq_false (by omega)
            have f4 : decide (K ≥ 0) = true := decide_eq_true (by omega)
            repeat (first | (refine acond_f f1 ?_; conv => whnf) | (refine acond_f f2 ?_; conv => whnf) | (refine acond_f f3 ?_; conv => whnf) | (refine acond_t f4 ?_; conv => whnf))
            refine ACall.frame [] [] rfl (args' := []) (Hc := []) rfl rfl awake_spec ?_
            rintro r H ⟨rfl, rfl⟩
            refine ⟨.inl rfl, ?_⟩
            conv => whnf
            exact GhR.sel [] rfl (GhR.of ⟨rfl, rfl⟩)
        · have f1 : (v != 0) = false := by rw [c1]; rfl
          have f2 : (u != 0) = false := by rw [c2]; rfl
          have f3 : decide (N ≥ 0) = true := decide_eq_true (by omega)
          repeat (first | (refine acond_f f1 ?_; conv => whnf) | (refine acond_f f2 ?_; conv => whnf) | (refine acond_t f3 ?_; conv => whnf))
          refine ACall.frame [] [] rfl (args' := []) (Hc := []) rfl rfl awake_spec ?_
          rintro r H ⟨rfl, rfl⟩
          refine ⟨.inl rfl, ?_⟩
          conv => whnf
          exact GhR.sel [] rfl (GhR.of ⟨rfl, rfl⟩)
      · have f1 : (v != 0) = false := by rw [c1]; rfl
        have f2 : (u != 0) = true := bne_iff_ne.2 c2
        repeat (first | (refine acond_f f1 ?_; conv => whnf) | (refine acond_t f2 ?_; conv => whnf))
        refine ACall.frame [] [] rfl (args' := []) (Hc := []) rfl rfl awake_spec ?_
        rintro r H ⟨rfl, rfl⟩
        refine ⟨.inl rfl, ?_⟩
        conv => whnf
        exact GhR.sel [] rfl (GhR.of ⟨rfl, rfl⟩)
    · have f1 : (v != 0) = true := bne_iff_ne.2 c1
      repeat (refine acond_t f1 ?_; conv => whnf)
      refine ACall.frame [] [] rfl (args' := []) (Hc := []) rfl rfl awake_spec ?_
      rintro r H ⟨rfl, rfl⟩
      refine ⟨.inl rfl, ?_⟩
      conv => whnf
      exact GhR.sel [] rfl (GhR.of ⟨rfl, rfl⟩)
end Go.AK
