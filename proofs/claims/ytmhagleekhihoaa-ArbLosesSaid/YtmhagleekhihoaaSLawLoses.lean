import Derived.Test.YtmhagleekhihoaaSPlain
import Derived.Test.YtmhagleekhihoaaSTop
namespace Go.AK
open Go Go.RowKit Go.Proofs
set_option linter.unusedVariables false
set_option maxRecDepth 100000
theorem placeL_lt : ∀ (L M : List Int) (k : Int), placeL L M k = -1 ∨ placeL L M k - k < L.length
  | [], M, k => .inl rfl
  | a :: L, [], k => .inl rfl
  | a :: L, b :: M, k => by
    unfold placeL
    split
    · rcases placeL_lt L M (k + 1) with h | h
      · exact .inl h
      · right; simp only [List.length_cons]; omega
    · right; simp only [List.length_cons]; omega
set_option maxHeartbeats 2000000 in
theorem lawLoses (F : Fr) (hF : F.ok) (G : Fr) (hG : G.ok) : ACall Try.prog 9 [F.av, G.av] [] fun r H => r = .ret (.b true) ∧ H = [] := by
  refine ACall.gh ?_
  refine ACall.enter tok false Try.func9 rfl rfl rfl (AW_sound (ip := false) tok _ _ _ _ ?_)
  conv => whnf
  have hok : ∀ X ∈ [F, G], X.ok := fun X hX => by
    rcases List.mem_cons.1 hX with rfl | hX
    · exact hF
    · rw [List.mem_singleton.1 hX]; exact hG
  refine ACall.frame [] [] rfl (args' := [F.av, G.av]) (Hc := []) rfl rfl (loses_spec F G hF hG) ?_
  rintro r H ⟨v, hv, rfl, rfl⟩
  refine ⟨.inl rfl, ?_⟩
  conv => whnf
  refine ACall.frame [] [2] rfl (args' := [.rs (frs [F, G]) 0 12 2]) (Hc := []) rfl rfl (wrong_spec [F, G] (by show 2 < _; omega) hok) ?_
  rintro r H ⟨u, hu, rfl, rfl⟩
  refine ⟨.inr ⟨rfl, rfl⟩, ?_⟩
  have he := wrong_chk hv hu
  subst he
  conv => whnf
  by_cases h0 : v = 0
  · subst h0
    rw [if_pos rfl]
    have hm : F.may ∧ G.may := by
      rcases hv with ⟨h, _⟩ | ⟨h, _⟩ | ⟨_, h, _⟩
      · omega
      · omega
      · exact ⟨h F (by simp), h G (by simp)⟩
    have hp : ¬ placeL F.row G.row 0 < 0 := fun h => by
      rcases hv with ⟨h1, _⟩ | ⟨h1, _⟩ | ⟨_, _, h1⟩
      · omega
      · omega
      · have h2 := h1 1 (by show 1 < 2; omega)
        have h3 : ([F, G].take 1).any (fun X => G.rival X) = true := List.any_eq_true.2 ⟨F, by simp, (rival_rows hm.2 hm.1).2 (place_rows.1 h).symm⟩
        rw [show [F, G][1] = G from rfl, h3] at h2; cases h2
    obtain ⟨k, hk⟩ : ∃ k : Nat, placeL F.row G.row 0 = k := ⟨(placeL F.row G.row 0).toNat, by omega⟩
    have hkl : k < F.row.length := by
      rcases placeL_lt F.row G.row 0 with h | h <;> omega
    have hlo := loses_place F.row G.row 0 (by omega) (row_lv F)
    rw [if_neg hp, hk, Int.sub_zero, Int.toNat_natCast, List.getD_eq_getElem?_getD, List.getElem?_eq_getElem hkl, Option.getD_some] at hlo
    conv => whnf
    refine ACall.frame [] [] rfl (args' := [F.av, G.av]) (Hc := []) rfl rfl (place_spec F G hm.1 hm.2) ?_
    rintro r H ⟨rfl, rfl⟩
    refine ⟨.inl rfl, ?_⟩
    rw [hk]
    conv => whnf
    refine ACall.frame [] [] rfl (args' := [F.av]) (Hc := []) rfl rfl (arb3_spec F hm.1) ?_
    rintro r H ⟨c, hc, rfl, rfl⟩
    refine ⟨.inl rfl, ?_⟩
    conv => whnf
    refine ⟨⟨by omega, by omega⟩, ?_⟩
    conv => whnf
    rw [subs_nums, show (0 + (k : Int).toNat * 1) = k from by omega]
    refine aget_nums hkl ?_
    conv => whnf
    by_cases hz : F.row[k] = 0
    · rw [if_pos hz] at hlo
      rw [show (F.row[k] == 0) = true from beq_iff_eq.2 hz]
      conv => whnf
      rw [hlo]
      conv => whnf
      refine ACall.frame [] [] rfl (args' := []) (Hc := []) rfl rfl awake_spec ?_
      rintro r H ⟨rfl, rfl⟩
      refine ⟨.inl rfl, ?_⟩
      conv => whnf
      exact GhR.sel [] rfl (GhR.of ⟨rfl, rfl⟩)
    · rw [if_neg hz] at hlo
      rw [show (F.row[k] == 0) = false from beq_eq_false_iff_ne.2 hz]
      conv => whnf
      rw [hlo]
      rw [show ((k : Int) == (k : Int)) = true from beq_self_eq_true _]
      conv => whnf
      refine ACall.frame [] [] rfl (args' := []) (Hc := []) rfl rfl awake_spec ?_
      rintro r H ⟨rfl, rfl⟩
      refine ⟨.inl rfl, ?_⟩
      conv => whnf
      exact GhR.sel [] rfl (GhR.of ⟨rfl, rfl⟩)
  · rw [show (v != 0) = true from bne_iff_ne.2 h0, if_neg h0]
    conv => whnf
    rw [show (v == v) = true from beq_self_eq_true _]
    conv => whnf
    refine ACall.frame [] [] rfl (args' := []) (Hc := []) rfl rfl awake_spec ?_
    rintro r H ⟨rfl, rfl⟩
    refine ⟨.inl rfl, ?_⟩
    conv => whnf
    exact GhR.sel [] rfl (GhR.of ⟨rfl, rfl⟩)
end Go.AK
