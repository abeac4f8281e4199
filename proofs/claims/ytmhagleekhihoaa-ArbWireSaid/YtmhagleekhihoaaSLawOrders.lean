import Derived.Test.YtmhagleekhihoaaSROrder
import Derived.Test.YtmhagleekhihoaaSTop
namespace Go.AK
open Go Go.RowKit Go.Proofs
set_option linter.unusedVariables false
set_option maxRecDepth 100000
theorem chk_go {l : List Fr} (h : ChkR l 0) : AllGo l := by
  rcases h with ⟨h, _⟩ | ⟨h, _⟩ | ⟨_, hm, hr⟩
  · omega
  · omega
  · have key : ∀ (i k : Nat) (hi : i < l.length) (hk : k < i), l[i].row ≠ l[k].row := fun i k hi hk e => by
      have h1 := hr i hi
      have h2 : (l.take i).any (fun G => l[i].rival G) = true := List.any_eq_true.2 ⟨l[k], by
        rw [show l[k] = (l.take i)[k]'(by rw [List.length_take]; omega) from (List.getElem_take ..).symm]
        exact List.getElem_mem _, (rival_rows (hm _ (List.getElem_mem _)) (hm _ (List.getElem_mem _))).2 e⟩
      rw [h1] at h2; cases h2
    refine ⟨hm, fun i k h0 h1 h2 h3 hne => ?_⟩
    obtain ⟨i, rfl⟩ := Int.eq_ofNat_of_zero_le h0
    obtain ⟨k, rfl⟩ := Int.eq_ofNat_of_zero_le h2
    rw [at_get l i (by omega), at_get l k (by omega)]
    by_cases hlt : k < i
    · exact key i k (by omega) hlt
    · exact fun e => key k i (by omega) (by omega) e.symm
theorem map_iota (l : List Fr) : (iota l.length).map (at_ l) = l := by
  unfold iota
  rw [List.map_map]
  refine List.ext_getElem (by simp) fun i h1 h2 => ?_
  simp only [List.getElem_map, List.getElem_range, Function.comp]
  exact at_get l i h2
theorem left_first {l : List Fr} (h : AllGo l) (h0 : 0 < l.length) : leftL l = [(ordL l).getD 0 0] := by
  obtain ⟨p, x, h1, h2, h3, h4⟩ := rest_least h h0
  have e : restA (ordL l) 0 l.length = iota l.length := by unfold restA; simp
  rw [e] at h3 h4
  rw [map_iota] at h4
  rw [h4, List.getD_eq_getElem?_getD, h1]
  have hp : p < l.length := by have := (List.getElem?_eq_some_iff.1 h3).1; rw [iota_length] at this; exact this
  have := iota_get l.length p hp
  rw [List.getD_eq_getElem?_getD, h3] at this
  simp at this
  rw [this]; rfl
theorem winner2 (l : List Fr) (hl : l.length ≤ 12) (hok : ∀ F ∈ l, F.ok) :
    ACall Try.prog 37 [.rs (frs l) 0 12 l.length] [] fun r H => ∃ v, ChkR l v ∧ r = .ret (.tup [.i .i64 (if l = [] then 0 else if v = 0 then (ordL l).getD 0 0 else 0), .i .i64 (if l = [] then 16 else v)]) ∧ H = [] := by
  refine ACall.mono (winner_spec l hl hok) ?_
  rintro r H (⟨rfl, rfl, rfl⟩ | ⟨h, v, hv, rfl, rfl⟩)
  · exact ⟨0, .inr (.inr ⟨rfl, by simp, fun i h => by simp at h⟩), rfl, rfl⟩
  · exact ⟨v, hv, by rw [if_neg h, if_neg h], rfl⟩
set_option maxHeartbeats 2000000 in
theorem lawOrders (l : List Fr) (hok : ∀ F ∈ l, F.ok) : ACall Try.prog 10 [.rs (frs l) 0 12 l.length] [] fun r H => r = .ret (.b true) ∧ H = [] := by
  refine ACall.gh ?_
  refine ACall.enter tok false Try.func10 rfl rfl rfl (AW_sound (ip := false) tok _ _ _ _ ?_)
  have harg : ∀ φ, subs φ [AV.rs (frs l) 0 12 l.length] = [AV.rs (frs l) 0 12 l.length] := fun φ => by
    show [AV.rs (subs _ (frs l)) 0 12 l.length] = _; rw [subs_frs]
  conv => whnf
  by_cases hl : (l.length : Int) > 12
  · refine acond_t (decide_eq_true hl) ?_
    conv => whnf
    refine ACall.mono awake_spec ?_; rintro r H ⟨rfl, rfl⟩
    conv => whnf
    exact GhR.of ⟨rfl, rfl⟩
  · refine acond_f (decide_eq_false hl) ?_
    conv => whnf
    refine ACall.frame [] [] rfl (args' := [.rs (frs l) 0 12 l.length]) (Hc := []) (harg _) rfl (winner2 l (by omega) hok) ?_
    rintro r H ⟨v, hv, rfl, rfl⟩
    obtain ⟨N, hN⟩ : ∃ N, N = (if l = [] then 0 else if v = 0 then (ordL l).getD 0 0 else 0) := ⟨_, rfl⟩
    obtain ⟨E, hE⟩ : ∃ E, E = (if l = [] then 16 else v) := ⟨_, rfl⟩
    rw [← hN, ← hE]
    refine ⟨.inl rfl, ?_⟩
    conv => whnf
    refine ACall.frame [] [] rfl (args' := [.rs (frs l) 0 12 l.length]) (Hc := []) (harg _) rfl (order_spec l (by omega) hok) ?_
    rintro r H ⟨u, hu, ⟨h0, rfl, rfl⟩ | ⟨h0, rfl, rfl⟩⟩
    · obtain rfl : v = u := by rw [hv.eq, hu.eq]
      refine ⟨.inl rfl, ?_⟩
      have hne : l ≠ [] := fun e => by
        subst e
        rcases hv with ⟨_, F, hF, _⟩ | ⟨_, _, i, hi, _⟩ | ⟨h, _⟩
        · cases hF
        · simp at hi
        · exact h0 h
      rw [if_neg hne] at hN hE
      rw [if_neg h0] at hN
      subst hN hE
      conv => whnf
      refine ACall.frame [] [] rfl (args' := [.rs (frs l) 0 12 l.length]) (Hc := []) (harg _) rfl (wrong_spec l (by omega) hok) ?_
      rintro r H ⟨w, hw, rfl, rfl⟩
      obtain rfl := wrong_chk hv hw
      refine ⟨.inl rfl, ?_⟩
      conv => whnf
      refine acond_t (bne_iff_ne.2 h0) ?_
      conv => whnf
      repeat (refine acond_t (beq_self_eq_true _) ?_; conv => whnf)
      refine ACall.frame [] [] rfl (args' := []) (Hc := []) rfl rfl awake_spec ?_
      rintro r H ⟨rfl, rfl⟩
      refine ⟨.inl rfl, ?_⟩
      conv => whnf
      repeat (refine acond_t (beq_self_eq_true _) ?_; conv => whnf)
      exact GhR.sel [] rfl (GhR.of ⟨rfl, rfl⟩)
    · subst h0
      obtain rfl : v = 0 := by rw [hv.eq, hu.eq]
      refine ⟨.inl rfl, ?_⟩
      conv => whnf
      refine ACall.frame [] [] rfl (args' := [.rs (frs l) 0 12 l.length]) (Hc := []) (harg _) rfl (wrong_spec l (by omega) hok) ?_
      rintro r H ⟨w, hw, rfl, rfl⟩
      obtain rfl := wrong_chk hv hw
      refine ⟨.inl rfl, ?_⟩
      conv => whnf
      have hgo := chk_go hv
      refine ACall.frame [] [] rfl (args' := [.rs (frs l) 0 12 l.length]) (Hc := []) (harg _) rfl (rorder_spec l (by omega) hgo) ?_
      rintro r H ⟨c, hc, rfl, rfl⟩
      refine ⟨.inl rfl, ?_⟩
      conv => whnf
      refine ACall.frame [] [0, 1] rfl (args' := [.rs (ints (ordL l)) 0 1 (ordL l).length, .rs (ints (ordL l)) 0 1 (ordL l).length]) (Hc := []) ?_ rfl (ints_spec (ordL l) (ordL l) (by rw [ordL_length]; omega)) ?_
      · show [AV.rs (subs _ (subs _ (ints (ordL l)))) 0 1 l.length, AV.rs (subs _ (subs _ (ints (ordL l)))) 0 1 l.length] = _
        rw [subs_nums, subs_nums, subs_nums, subs_nums, ordL_length]
      rintro r H ⟨rfl, rfl⟩
      refine ⟨.inr ⟨rfl, rfl⟩, ?_⟩
      conv => whnf
      rw [decide_eq_true rfl]
      conv => whnf
      by_cases hn : l = []
      · subst hn
        obtain rfl : N = 0 := hN
        obtain rfl : E = 16 := hE
        conv => whnf
        refine ACall.frame [] [] rfl (args' := []) (Hc := []) rfl rfl awake_spec ?_
        rintro r H ⟨rfl, rfl⟩
        refine ⟨.inl rfl, ?_⟩
        conv => whnf
        repeat (refine acond_t (beq_self_eq_true _) ?_; conv => whnf)
        exact GhR.sel [] rfl (GhR.of ⟨rfl, rfl⟩)
      · rw [if_neg hn] at hN hE
        rw [if_pos rfl] at hN
        subst hE
        have hpos : 0 < l.length := List.length_pos_iff.2 hn
        have hlf := left_first hgo hpos
        refine acond_f (beq_eq_false_iff_ne.2 (by omega)) ?_
        conv => whnf
        refine ACall.frame [] [] rfl (args' := [.rs (frs l) 0 12 l.length]) (Hc := []) (harg _) rfl (wins_spec l (by omega) hgo.1 (by rw [hlf]; simp)) ?_
        rintro r H ⟨rfl, rfl⟩
        rw [hlf, show [(ordL l).getD 0 0].getD 0 0 = (ordL l).getD 0 0 from rfl, ← hN]
        refine ⟨.inl rfl, ?_⟩
        conv => whnf
        repeat (refine acond_t (beq_self_eq_true _) ?_; conv => whnf)
        refine ACall.frame [] [] rfl (args' := []) (Hc := []) rfl rfl awake_spec ?_
        rintro r H ⟨rfl, rfl⟩
        refine ⟨.inl rfl, ?_⟩
        conv => whnf
        repeat (refine acond_t (beq_self_eq_true _) ?_; conv => whnf)
        exact GhR.sel [] rfl (GhR.of ⟨rfl, rfl⟩)
end Go.AK
