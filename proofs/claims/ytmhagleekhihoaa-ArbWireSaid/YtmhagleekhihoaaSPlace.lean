import Derived.Test.YtmhagleekhihoaaSAwake
namespace Go.AK
open Go Go.RowKit Go.Proofs
set_option linter.unusedVariables false
set_option maxRecDepth 100000
/-- The first place where rows differ, as far as both go; -1: nowhere. -/
def placeL : List Int → List Int → Int → Int
  | a :: L, b :: M, k => if a = b then placeL L M (k + 1) else k
  | _, _, _ => -1
theorem placeL_end {L M : List Int} (h : L = [] ∨ M = []) (k : Int) : placeL L M k = -1 := by
  rcases h with rfl | rfl
  · rfl
  · cases L <;> rfl
theorem place_spec (F G : Fr) (hF : F.may) (hG : G.may) : ACall Try.prog 35 [F.av, G.av] [] fun r H => r = .ret (.i .i64 (placeL F.row G.row 0)) ∧ H = [] := by
  refine ACall.gh ?_
  refine ACall.enter tok false Try.func35 rfl rfl rfl (AW_sound (ip := false) tok _ _ _ _ ?_)
  conv => whnf
  refine ACall.frame [] [] rfl (args' := [F.av]) (Hc := []) rfl rfl (arb3_spec F hF) ?_
  rintro r H ⟨c, hc, rfl, rfl⟩
  refine ⟨.inl rfl, ?_⟩
  conv => whnf
  refine ACall.frame [] [] rfl (args' := [G.av]) (Hc := []) rfl rfl (arb3_spec G hG) ?_
  rintro r H ⟨d, hd, rfl, rfl⟩
  refine ⟨.inl rfl, ?_⟩
  conv => whnf
  have hfl := F.row_le
  have hgl := G.row_le
  refine ALoop.ind (ip := false) tok (fun m r H => ∃ (k : Nat), k ≤ F.row.length ∧ k ≤ G.row.length ∧ m = F.row.length - k ∧ placeL F.row G.row 0 = placeL (F.row.drop k) (G.row.drop k) k ∧ H = [.c (ints F.row), .c (ints G.row)] ∧
    r = [(7, .i .i64 k), (5, .sl (some (0, 0)) 1 F.row.length c), (6, .sl (some (1, 0)) 1 G.row.length d), (4, .i .i64 0)]) F.row.length ?_ ?_
  · refine Gh.regs [7, 5, 6, 4] (Gh.sel [2, 3] rfl (Gh.of ⟨0, by omega, by omega, by omega, rfl, ?_, ?_⟩))
    · show [Blk.c (subs _ (subs _ (ints F.row))), Blk.c (subs _ (subs _ (ints G.row)))] = _
      simp only [subs_nums]
    · refine keep_eq (show keepR _ _ = [_, _, _, _] from rfl) ?_
      rfl
  · rintro m r H ⟨k, hk, hk2, rfl, hc, rfl, rfl⟩
    conv => whnf
    by_cases h1 : (k : Int) < F.row.length
    · rw [decide_eq_true h1]
      conv => whnf
      by_cases h2 : (k : Int) < G.row.length
      · rw [decide_eq_true h2]
        have hk1 : k < F.row.length := by omega
        have hk2 : k < G.row.length := by omega
        rw [List.drop_eq_getElem_cons hk1, List.drop_eq_getElem_cons hk2, placeL] at hc
        conv => whnf
        refine ADraw.of tok mixed false [0, 1, 2, 3, 4, 5, 6, 7, 8] [] (by kernel_rfl) (fun _ _ _ _ h => h) ?_
        conv => whnf
        refine ⟨⟨by omega, by omega⟩, ?_⟩
        conv => whnf
        rw [show (0 + (k : Int).toNat * 1) = k from by omega]
        refine aget_nums hk1 ?_
        conv => whnf
        refine ⟨⟨by omega, by omega⟩, ?_⟩
        conv => whnf
        rw [show (0 + (k : Int).toNat * 1) = k from by omega]
        refine aget_nums hk2 ?_
        conv => whnf
        by_cases he : F.row[k] = G.row[k]
        · rw [show (F.row[k] != G.row[k]) = false from by rw [he]; exact bne_self_eq_false _]
          rw [if_pos he] at hc
          conv => whnf
          rw [w64 (by omega) (by omega)]
          refine Gh.regs [7, 5, 6, 4] (Gh.of ⟨_, ?_, k + 1, by omega, by omega, rfl, hc, rfl, rfl⟩)
          omega
        · rw [show (F.row[k] != G.row[k]) = true from bne_iff_ne.2 he]
          rw [if_neg he] at hc
          conv => whnf
          refine GhR.sel [] rfl (GhR.of ⟨?_, rfl⟩)
          rw [hc]; rfl
      · rw [decide_eq_false h2]
        conv => whnf
        refine GhR.sel [] rfl (GhR.of ⟨?_, rfl⟩)
        rw [hc, placeL_end (.inr (List.drop_of_length_le (by omega)))]; rfl
    · rw [decide_eq_false h1]
      conv => whnf
      refine GhR.sel [] rfl (GhR.of ⟨?_, rfl⟩)
      rw [hc, placeL_end (.inl (List.drop_of_length_le (by omega)))]; rfl
end Go.AK
