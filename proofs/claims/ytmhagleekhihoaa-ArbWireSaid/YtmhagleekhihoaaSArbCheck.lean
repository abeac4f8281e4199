import Derived.Test.YtmhagleekhihoaaSChk
namespace Go.AK
open Go Go.RowKit Go.Proofs
set_option linter.unusedVariables false
set_option maxRecDepth 100000
/-- Why frames may not begin at once. -/
def ChkR (L : List Fr) (v : Int) : Prop :=
  (v = 14 ∧ ∃ F ∈ L, ¬F.may) ∨ (v = 23 ∧ (∀ F ∈ L, F.may) ∧ ∃ i, ∃ h : i < L.length, (L.take i).any (fun G => L[i].rival G) = true) ∨
  (v = 0 ∧ (∀ F ∈ L, F.may) ∧ ∀ i (h : i < L.length), (L.take i).any (fun G => L[i].rival G) = false)
theorem acheck_spec (L : List Fr) (hL : L.length < 1000000000) (hok : ∀ F ∈ L, F.ok) :
    ACall Try.prog 53 [.rs (frs L) 0 12 L.length] [] fun r H => ∃ v, ChkR L v ∧ r = .ret (.i .i64 v) ∧ H = [] := by
  refine ACall.gh ?_
  refine ACall.enter tok false Try.func53 rfl rfl rfl (AW_sound (ip := false) tok _ _ _ _ ?_)
  conv => whnf
  refine ALoop.ind (ip := false) tok (fun m r H => ∃ (k : Nat), k ≤ L.length ∧ m = L.length - k ∧ (∀ j (h : j < L.length), j < k → L[j].may) ∧ H = [] ∧
    r = [(10, .i .i64 k), (9, .i .i64 L.length), (8, .rs (frs L) 0 12 L.length), (0, .rs (frs L) 0 12 L.length), (2, .i .i64 0)]) L.length ?_ ?_
  · exact Gh.regs [10, 9, 8, 0, 2] (Gh.of ⟨0, by omega, by omega, fun j _ h => by omega, rfl, rfl⟩)
  · rintro m r H ⟨k, hk, rfl, hn, rfl, rfl⟩
    conv => whnf
    by_cases h : (k : Int) < L.length
    · rw [decide_eq_true h]
      conv => whnf
      refine ⟨⟨by omega, h⟩, ?_⟩
      conv => whnf
      have hkl : k < L.length := by omega
      refine aget_fr (k := k) (by omega) hkl ?_
      conv => whnf
      refine ⟨by show 12 ≤ (12 : Nat); omega, ?_⟩
      conv => whnf
      refine ACall.frame [] [] rfl (args' := [L[k].av]) (Hc := []) rfl rfl (check_spec L[k] (hok _ (List.getElem_mem _))) ?_
      rintro r H ⟨rfl, rfl⟩
      refine ⟨.inl rfl, ?_⟩
      conv => whnf
      by_cases hm : L[k].may
      · rw [Fr.good hm]
        conv => whnf
        rw [w64 (by omega) (by omega)]
        refine Gh.regs [10, 9, 8, 0, 2] (Gh.sel [] rfl (Gh.of ⟨_, ?_, k + 1, by omega, rfl, ?_, rfl, ?_⟩))
        · omega
        · intro j hj hj2
          by_cases e : j = k
          · subst e; exact hm
          · exact hn j hj (by omega)
        · refine keep_eq (show keepR _ _ = [_, _, _, _, _] from rfl) ?_
          simp only [subG, sub, subs_frs]
          rfl
      · rw [Fr.bad hm]
        conv => whnf
        exact GhR.sel [] rfl (GhR.of ⟨_, .inl ⟨rfl, _, List.getElem_mem hkl, hm⟩, rfl, rfl⟩)
    · rw [decide_eq_false h]
      conv => whnf
      have : k = L.length := by omega
      subst this
      have hall : ∀ F ∈ L, F.may := fun F hF => by
        obtain ⟨j, hj, rfl⟩ := List.mem_iff_getElem.1 hF
        exact hn j hj hj
      refine ALoop.ind (ip := false) tok (fun m r H => ∃ (k : Nat), k ≤ L.length ∧ m = L.length - k ∧ (∀ j (h : j < L.length), j < k → (L.take j).any (fun G => L[j].rival G) = false) ∧ H = [] ∧
        r = [(22, .i .i64 k), (21, .i .i64 L.length), (20, .rs (frs L) 0 12 L.length), (0, .rs (frs L) 0 12 L.length), (2, .i .i64 0)]) L.length ?_ ?_
      · exact Gh.regs [22, 21, 20, 0, 2] (Gh.of ⟨0, by omega, by omega, fun j _ h => by omega, rfl, rfl⟩)
      · rintro m r H ⟨k, hk, rfl, hn, rfl, rfl⟩
        conv => whnf
        by_cases h : (k : Int) < L.length
        · rw [decide_eq_true h]
          conv => whnf
          refine ⟨⟨by omega, h⟩, ?_⟩
          conv => whnf
          have hkl : k < L.length := by omega
          refine aget_fr (k := k) (by omega) hkl ?_
          conv => whnf
          refine ⟨by show 12 ≤ (12 : Nat); omega, ?_⟩
          conv => whnf
          refine ⟨⟨by omega, by omega⟩, ?_⟩
          conv => whnf
          have htl : (L.take k).length = k := by rw [List.length_take]; omega
          refine ACall.mono (ACall.args (containsFunc_spec (L.take k) (by omega) (fun F hF => hok F (List.mem_of_mem_take hF)) 69 [.p (some (0, 0))] [.c L[k].cells] _ (rivalFn_spec L[k] (hok _ (List.getElem_mem _)))) ?_) ?_
          · rw [htl]
            show VLe [.rs (frs L) 0 12 k, .fn (.func 69) [] [.p (some (0, 0))]] [.rs (frs (L.take k)) 0 12 k, .fn (.func 69) [] [.p (some (0, 0))]]
            exact VLe.rs (by rw [List.drop_zero, frs_length, htl, ← frs_take]) (by rw [List.drop_zero, frs_length, frs_length]; omega) (VLe.cons VLe.nil)
          rintro r H ⟨rfl, rfl⟩
          conv => whnf
          cases he : (L.take k).any (fun G => L[k].rival G)
          · conv => whnf
            rw [w64 (by omega) (by omega)]
            refine Gh.regs [22, 21, 20, 0, 2] (Gh.sel [] rfl (Gh.of ⟨_, ?_, k + 1, by omega, rfl, ?_, rfl, ?_⟩))
            · omega
            · intro j hj hj2
              by_cases e : j = k
              · subst e; exact he
              · exact hn j hj (by omega)
            · refine keep_eq (show keepR _ _ = [_, _, _, _, _] from rfl) ?_
              simp only [subG, sub, subs_frs]
              rfl
          · conv => whnf
            exact GhR.sel [] rfl (GhR.of ⟨_, .inr (.inl ⟨rfl, hall, k, hkl, he⟩), rfl, rfl⟩)
        · rw [decide_eq_false h]
          conv => whnf
          have : k = L.length := by omega
          subst this
          exact GhR.sel [] rfl (GhR.of ⟨_, .inr (.inr ⟨rfl, hall, fun i h => hn i h h⟩), rfl, rfl⟩)
end Go.AK
