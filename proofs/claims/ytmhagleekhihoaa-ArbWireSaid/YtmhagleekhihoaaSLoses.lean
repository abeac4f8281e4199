import Derived.Test.YtmhagleekhihoaaSArbCheck
import Derived.Test.YtmhagleekhihoaaAK19
namespace Go.AK
open Go Go.RowKit Go.Proofs
set_option linter.unusedVariables false
set_option maxRecDepth 100000
theorem mixed : Try.prog.follows .mixedOrders = true := by kernel_rfl
/-- Where one row loses against another one; -1: it does not. -/
def losesL : List Int → List Int → Int → Int
  | a :: L, b :: M, k => if a = b then losesL L M (k + 1) else if a = 1 then k else -1
  | _, _, _ => -1
theorem frm_cells (F : Fr) : frs [F] = F.cells := by simp [frs]
set_option maxHeartbeats 1000000 in
theorem loses_spec (F G : Fr) (hF : F.ok) (hG : G.ok) :
    ACall Try.prog 33 [F.av, G.av] [] fun r H => ∃ v, ChkR [F, G] v ∧ r = .ret (.tup [.i .i64 (if v = 0 then losesL F.row G.row 0 else 0), .i .i64 v]) ∧ H = [] := by
  refine ACall.gh ?_
  refine ACall.enter tok false Try.func33 rfl rfl rfl (AW_sound (ip := false) tok _ _ _ _ ?_)
  conv => whnf
  have hok : ∀ X ∈ [F, G], X.ok := fun X hX => by
    rcases List.mem_cons.1 hX with rfl | hX
    · exact hF
    · rw [List.mem_singleton.1 hX]; exact hG
  refine ACall.frame [] [2] rfl (args' := [.rs (frs [F, G]) 0 12 2]) (Hc := []) rfl rfl (acheck_spec [F, G] (by show 2 < _; omega) hok) ?_
  rintro r H ⟨v, hv, rfl, rfl⟩
  refine ⟨.inr ⟨rfl, rfl⟩, ?_⟩
  conv => whnf
  by_cases h0 : v = 0
  · have hm : F.may ∧ G.may := by
      rcases hv with ⟨h, _⟩ | ⟨h, _⟩ | ⟨_, h, _⟩
      · omega
      · omega
      · exact ⟨h F (by simp), h G (by simp)⟩
    rw [show (v != 0) = false from by rw [h0]; rfl]
    conv => whnf
    refine ACall.frame [] [] rfl (args' := [F.av]) (Hc := []) rfl rfl (arb_spec F hF) ?_
    rintro r H (⟨hn, _⟩ | ⟨_, c, hc, rfl, rfl⟩)
    · exact absurd hm.1 hn
    refine ⟨.inl rfl, ?_⟩
    conv => whnf
    refine ACall.frame [] [] rfl (args' := [G.av]) (Hc := []) rfl rfl (arb_spec G hG) ?_
    rintro r H (⟨hn, _⟩ | ⟨_, d, hd, rfl, rfl⟩)
    · exact absurd hm.2 hn
    refine ⟨.inl rfl, ?_⟩
    conv => whnf
    refine ALoop.ind (ip := false) tok (fun m r H => ∃ (k : Nat), k ≤ F.row.length ∧ k ≤ G.row.length ∧ m = F.row.length - k ∧ losesL F.row G.row 0 = losesL (F.row.drop k) (G.row.drop k) k ∧ H = [.c (ints F.row), .c (ints G.row)] ∧
      r = [(39, .i .i64 k), (38, .i .i64 (if (G.row.length : Int) < F.row.length then (G.row.length : Int) else F.row.length)), (7, .sl (some (0, 0)) 1 F.row.length c), (9, .sl (some (1, 0)) 1 G.row.length d), (4, .i .i64 0), (5, .i .i64 0)]) F.row.length ?_ ?_
    · refine Gh.regs [39, 38, 7, 9, 4, 5] (Gh.sel [3, 4] rfl (Gh.of ⟨0, by omega, by omega, by omega, rfl, ?_, ?_⟩))
      · show [Blk.c (subs _ (subs _ (ints F.row))), Blk.c (subs _ (subs _ (ints G.row)))] = _
        simp only [subs_nums]
      · refine keep_eq (show keepR _ _ = [_, _, _, _, _, _] from rfl) ?_
        rfl
    · rintro m r H ⟨k, hk, hk2, rfl, hc, rfl, rfl⟩
      conv => whnf
      have hlt : (k : Int) < (if (G.row.length : Int) < F.row.length then (G.row.length : Int) else F.row.length) ↔ k < F.row.length ∧ k < G.row.length := by split <;> omega
      by_cases h : (k : Int) < (if (G.row.length : Int) < F.row.length then (G.row.length : Int) else F.row.length)
      · rw [decide_eq_true h]
        have hk1 := (hlt.1 h).1
        have hk2 := (hlt.1 h).2
        rw [List.drop_eq_getElem_cons hk1, List.drop_eq_getElem_cons hk2, losesL] at hc
        conv => whnf
        refine ADraw.of tok mixed false [0, 1, 2, 3, 4, 5, 6, 7, 8] [] (by kernel_rfl) (fun _ _ _ _ h => h) ?_
        conv => whnf
        refine ⟨⟨by omega, by omega⟩, ?_⟩
        conv => whnf
        rw [show (0 + (k : Int).toNat * 1) = k from by omega]
        refine aget_nums hk1 ?_
        conv => whnf
        refine ⟨⟨by omega, by omega⟩, ?_⟩
        conv => whnf
        rw [show (0 + (k : Int).toNat * 1) = k from by omega]
        refine aget_nums hk2 ?_
        conv => whnf
        by_cases he : F.row[k] = G.row[k]
        · rw [show (F.row[k] == G.row[k]) = true from beq_iff_eq.2 he]
          rw [if_pos he] at hc
          conv => whnf
          have hkl : F.row.length ≤ 32 := F.row_le
          rw [w64 (by omega) (by omega)]
          refine Gh.regs [39, 38, 7, 9, 4, 5] (Gh.of ⟨_, ?_, k + 1, by omega, by omega, rfl, hc, rfl, rfl⟩)
          omega
        · rw [show (F.row[k] == G.row[k]) = false from beq_eq_false_iff_ne.2 he]
          rw [if_neg he] at hc
          conv => whnf
          refine ⟨⟨by omega, by omega⟩, ?_⟩
          conv => whnf
          rw [show (0 + (k : Int).toNat * 1) = k from by omega]
          refine aget_nums hk1 ?_
          conv => whnf
          by_cases h1 : F.row[k] = 1
          · rw [show (F.row[k] == 1) = true from beq_iff_eq.2 h1]
            rw [if_pos h1] at hc
            conv => whnf
            refine GhR.sel [] rfl (GhR.of ⟨v, hv, ?_, rfl⟩)
            rw [if_pos h0, hc, h0]
            rfl
          · rw [show (F.row[k] == 1) = false from beq_eq_false_iff_ne.2 h1]
            rw [if_neg h1] at hc
            conv => whnf
            refine GhR.sel [] rfl (GhR.of ⟨v, hv, ?_, rfl⟩)
            rw [if_pos h0, hc, h0]
            rfl
      · rw [decide_eq_false h]
        have h' := (not_congr hlt).1 h
        have hc2 : losesL (F.row.drop k) (G.row.drop k) k = -1 := by
          by_cases h1 : k < F.row.length
          · rw [List.drop_of_length_le (l := G.row) (by omega)]; cases F.row.drop k <;> rfl
          · rw [List.drop_of_length_le (l := F.row) (by omega)]; rfl
        conv => whnf
        refine GhR.sel [] rfl (GhR.of ⟨v, hv, ?_, rfl⟩)
        rw [if_pos h0, hc, hc2, h0]
        rfl
  · rw [show (v != 0) = true from bne_iff_ne.2 h0]
    conv => whnf
    refine GhR.sel [] rfl (GhR.of ⟨v, hv, ?_, rfl⟩)
    rw [if_neg h0]
    rfl
end Go.AK
