import Derived.Test.YtmhagleekhihoaaSPlace
namespace Go.AK
open Go Go.RowKit Go.Proofs
set_option linter.unusedVariables false
set_option maxRecDepth 100000
/-- What the document says of frames that may not begin at once. -/
def WrongR (L : List Fr) (v : Int) : Prop :=
  (v = 14 ∧ ∃ F ∈ L, ¬F.may) ∨ (v = 23 ∧ (∀ F ∈ L, F.may) ∧ ∃ i k, ∃ h : i < L.length, ∃ h2 : k < i, placeL L[i].row L[k].row 0 < 0) ∨
  (v = 0 ∧ (∀ F ∈ L, F.may) ∧ ∀ i k (h : i < L.length) (h2 : k < i), 0 ≤ placeL L[i].row L[k].row 0)
set_option maxHeartbeats 2000000 in
theorem wrong_spec (L : List Fr) (hL : L.length < 1000000000) (hok : ∀ F ∈ L, F.ok) :
    ACall Try.prog 34 [.rs (frs L) 0 12 L.length] [] fun r H => ∃ v, WrongR L v ∧ r = .ret (.i .i64 v) ∧ H = [] := by
  refine ACall.enter tok false Try.func34 rfl rfl rfl (AW_sound (ip := false) tok _ _ _ _ ?_)
  conv => whnf
  refine ALoop.ind (ip := false) tok (fun m r H => ∃ (k : Nat), k ≤ L.length ∧ m = L.length - k ∧ (∀ j (h : j < L.length), j < k → L[j].may) ∧ H = [] ∧
    r = [(3, .i .i64 k), (0, .rs (frs L) 0 12 L.length)]) L.length ?_ ?_
  · exact Gh.regs [3, 0] (Gh.of ⟨0, by omega, by omega, fun j _ h => by omega, rfl, rfl⟩)
  · rintro m r H ⟨k, hk, rfl, hn, rfl, rfl⟩
    conv => whnf
    by_cases h : (k : Int) < L.length
    · rw [decide_eq_true h]
      conv => whnf
      refine ⟨⟨by omega, h⟩, ?_⟩
      conv => whnf
      have hkl : k < L.length := by omega
      refine aget_fr (k := k) (by omega) hkl ?_
      conv => whnf
      refine ACall.mono (check3_spec L[k] (hok _ (List.getElem_mem _))) ?_; rintro r H ⟨rfl, rfl⟩
      conv => whnf
      by_cases hm : L[k].may
      · rw [Fr.good hm]
        conv => whnf
        rw [w64 (by omega) (by omega)]
        refine Gh.regs [3, 0] (Gh.of ⟨_, ?_, k + 1, by omega, rfl, ?_, rfl, rfl⟩)
        · omega
        · intro j hj hj2
          by_cases e : j = k
          · subst e; exact hm
          · exact hn j hj (by omega)
      · rw [Fr.bad hm]
        conv => whnf
        exact ⟨_, .inl ⟨rfl, _, List.getElem_mem hkl, hm⟩, rfl, rfl⟩
    · rw [decide_eq_false h]
      conv => whnf
      have : k = L.length := by omega
      subst this
      have hall : ∀ F ∈ L, F.may := fun F hF => by
        obtain ⟨j, hj, rfl⟩ := List.mem_iff_getElem.1 hF
        exact hn j hj hj
      refine ALoop.ind (ip := false) tok (fun m r H => ∃ (i : Nat), i ≤ L.length ∧ m = L.length - i ∧ (∀ a b (h : a < L.length) (h2 : b < a), a < i → 0 ≤ placeL L[a].row L[b].row 0) ∧ H = [] ∧
        r = [(4, .i .i64 i), (0, .rs (frs L) 0 12 L.length)]) L.length ?_ ?_
      · exact Gh.regs [4, 0] (Gh.of ⟨0, by omega, by omega, fun a b _ _ h => by omega, rfl, rfl⟩)
      · rintro m r H ⟨i, hi, rfl, hp, rfl, rfl⟩
        conv => whnf
        by_cases h : (i : Int) < L.length
        · rw [decide_eq_true h]
          conv => whnf
          have hil : i < L.length := by omega
          refine ALoop.ind (ip := false) tok (fun m r H => ∃ (j : Nat), j ≤ i ∧ m = i - j ∧ (∀ b (h2 : b < i), b < j → 0 ≤ placeL L[i].row L[b].row 0) ∧ H = [] ∧
            r = [(5, .i .i64 j), (4, .i .i64 i), (0, .rs (frs L) 0 12 L.length)]) i ?_ ?_
          · exact Gh.regs [5, 4, 0] (Gh.of ⟨0, by omega, by omega, fun b _ h => by omega, rfl, rfl⟩)
          · rintro m r H ⟨j, hj, rfl, hq, rfl, rfl⟩
            conv => whnf
            by_cases h3 : (j : Int) < i
            · rw [decide_eq_true h3]
              conv => whnf
              have hjl : j < L.length := by omega
              refine ADraw.of tok mixed false [0, 1, 2, 3, 4, 5, 6, 7] [8, 9] (by kernel_rfl) (fun _ _ _ _ h => h) ?_
              conv => whnf
              refine ⟨⟨by omega, by omega⟩, ?_⟩
              conv => whnf
              refine aget_fr (k := i) (by omega) hil ?_
              conv => whnf
              refine ⟨⟨by omega, by omega⟩, ?_⟩
              conv => whnf
              refine aget_fr (k := j) (by omega) hjl ?_
              conv => whnf
              refine ACall.mono (place_spec L[i] L[j] (hall _ (List.getElem_mem _)) (hall _ (List.getElem_mem _))) ?_; rintro r H ⟨rfl, rfl⟩
              conv => whnf
              by_cases h4 : placeL L[i].row L[j].row 0 < 0
              · rw [decide_eq_true h4]
                conv => whnf
                exact ⟨_, .inr (.inl ⟨rfl, hall, i, j, hil, by omega, h4⟩), rfl, rfl⟩
              · rw [decide_eq_false h4]
                conv => whnf
                rw [w64 (by omega) (by omega)]
                refine Gh.regs [5, 4, 0] (Gh.of ⟨_, ?_, j + 1, by omega, rfl, ?_, rfl, rfl⟩)
                · omega
                · intro b hb hb2
                  by_cases e : b = j
                  · subst e; omega
                  · exact hq b hb (by omega)
            · rw [decide_eq_false h3]
              conv => whnf
              rw [w64 (by omega) (by omega)]
              refine Gh.regs [4, 0] (Gh.of ⟨L.length - (i + 1), by omega, i + 1, by omega, rfl, ?_, rfl, rfl⟩)
              intro a b ha hb ha2
              by_cases e : a = i
              · subst e; exact hq b hb (by omega)
              · exact hp a b ha hb (by omega)
        · rw [decide_eq_false h]
          conv => whnf
          have : i = L.length := by omega
          subst this
          exact ⟨_, .inr (.inr ⟨rfl, hall, fun a b ha hb => hp a b ha hb ha⟩), rfl, rfl⟩
end Go.AK
