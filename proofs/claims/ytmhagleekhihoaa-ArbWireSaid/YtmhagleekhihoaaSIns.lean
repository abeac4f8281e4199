import Derived.Test.YtmhagleekhihoaaSSort
namespace Go.AK
open Go Go.RowKit Go.Proofs
set_option linter.unusedVariables false
set_option maxRecDepth 100000
def swapAt (L : List Int) (j : Nat) : List Int := (L.set (j + 1) (L.getD j 0)).set j (L.getD (j + 1) 0)
/-- An element goes ahead, as long as it comes ahead of the one before it. -/
def goA (cf : Int → Int → Int) : Nat → List Int → List Int
  | 0, L => L
  | j + 1, L => if cf (L.getD (j + 1) 0) (L.getD j 0) < 0 then goA cf j (swapAt L j) else L
def insFrom (cf : Int → Int → Int) : Nat → Nat → List Int → List Int
  | 0, i, L => L
  | n + 1, i, L => insFrom cf n (i + 1) (goA cf i L)
theorem swapAt_length (L : List Int) (j : Nat) : (swapAt L j).length = L.length := by simp [swapAt]
theorem goA_length (cf : Int → Int → Int) : ∀ (j : Nat) (L : List Int), (goA cf j L).length = L.length
  | 0, L => rfl
  | j + 1, L => by
    unfold goA
    split
    · rw [goA_length cf j, swapAt_length]
    · rfl
/-- All are places of a row. -/
def Plc (n : Nat) (L : List Int) : Prop := ∀ x ∈ L, 0 ≤ x ∧ x < n
theorem Plc.swapAt {n : Nat} {L : List Int} (h : Plc n L) (j : Nat) (hj : j + 1 < L.length) : Plc n (swapAt L j) := by
  have g : ∀ i, i < L.length → 0 ≤ L.getD i 0 ∧ L.getD i 0 < n := fun i hi => by
    rw [List.getD_eq_getElem?_getD, List.getElem?_eq_getElem hi]; exact h _ (List.getElem_mem hi)
  intro x hx
  unfold AK.swapAt at hx
  rcases List.mem_or_eq_of_mem_set hx with h1 | h1
  · rcases List.mem_or_eq_of_mem_set h1 with h2 | h2
    · exact h x h2
    · rw [h2]; exact g j (by omega)
  · rw [h1]; exact g _ hj
theorem Plc.goA {n : Nat} (cf : Int → Int → Int) : ∀ (j : Nat) {L : List Int}, Plc n L → j < L.length → Plc n (goA cf j L)
  | 0, L, h, hj => h
  | j + 1, L, h, hj => by
    unfold AK.goA
    split
    · exact Plc.goA cf j (h.swapAt j hj) (by rw [swapAt_length]; omega)
    · exact h
set_option maxHeartbeats 2000000 in
theorem ins_spec (l : List Fr) (hok : ∀ F ∈ l, F.ok) (L : List Int) (hL : L.length < 1000000000) (hp : Plc l.length L) (c : Nat) :
    ACall Try.prog 76 [.sl (some (1, 0)) 1 L.length c, .i .i64 0, .i .i64 L.length, .fn (.func 57) [] [.p (some (0, 0))]] [.c [.rs (frs l) 0 12 l.length], .c (ints L)]
      fun r H => r = .ret (.tup []) ∧ H = [.c [.rs (frs l) 0 12 l.length], .c (ints (insFrom (ordI l) (L.length - 1) 1 L))] := by
  refine ACall.gh ?_
  refine ACall.enter tok false Try.func76 rfl rfl rfl (AW_sound (ip := false) tok _ _ _ _ ?_)
  conv => whnf
  generalize hB : AV.rs (frs l) 0 12 l.length = B
  have hsub : ∀ φ, sub φ B = B := fun φ => by subst hB; simp only [sub, subs_frs]
  have hcall : ∀ i k : Nat, i < l.length → k < l.length → ACall Try.prog 57 [.i .i64 i, .i .i64 k, .p (some (0, 0))] [.c [B]] fun r H => r = .ret (.i .i64 (ordI l i k)) ∧ H = [.c [B]] := by
    subst hB; exact orderFn_spec l hok
  refine ALoop.ind (ip := false) tok (fun m r H => ∃ (i : Nat) (M : List Int), 1 ≤ i ∧ (i ≤ L.length ∨ i = 1) ∧ m = L.length - i ∧ M.length = L.length ∧ Plc l.length M ∧ insFrom (ordI l) (L.length - 1) 1 L = insFrom (ordI l) (L.length - i) i M ∧ H = [.c [B], .c (ints M)] ∧
    r = [(8, .i .i64 i), (0, .sl (some (1, 0)) 1 L.length c), (1, .i .i64 0), (2, .i .i64 L.length), (3, .fn (.func 57) [] [.p (some (0, 0))])]) (L.length - 1) ?_ ?_
  · refine Gh.regs [8, 0, 1, 2, 3] (Gh.of ⟨1, L, by omega, .inr rfl, rfl, rfl, hp, rfl, rfl, rfl⟩)
  · rintro m r H ⟨i, M, hi1, hi2, rfl, hM, hpM, hrun, rfl, rfl⟩
    conv => whnf
    by_cases h : (i : Int) < L.length
    · rw [decide_eq_true h]
      conv => whnf
      have hin : i < L.length := by omega
      obtain ⟨q, hq⟩ : ∃ q, L.length - i = q + 1 := ⟨L.length - i - 1, by omega⟩
      rw [hq, insFrom] at hrun
      refine ALoop.ind (ip := false) tok (fun m r H => ∃ (j : Nat) (N : List Int), j ≤ i ∧ j = m ∧ N.length = L.length ∧ Plc l.length N ∧ goA (ordI l) i M = goA (ordI l) j N ∧ H = [.c [B], .c (ints N)] ∧
        r = [(9, .i .i64 j), (8, .i .i64 i), (0, .sl (some (1, 0)) 1 L.length c), (1, .i .i64 0), (2, .i .i64 L.length), (3, .fn (.func 57) [] [.p (some (0, 0))])]) i ?_ ?_
      · exact Gh.regs [9, 8, 0, 1, 2, 3] (Gh.of ⟨i, M, by omega, rfl, hM, hpM, rfl, rfl, rfl⟩)
      · rintro m r H ⟨j, N, hj, rfl, hN, hpN, hgo, rfl, rfl⟩
        have hnl : (ints N).length = N.length := nums_length _ _
        conv => whnf
        refine ADraw.of tok mixed false [0, 1, 2, 3, 4, 5, 6, 7, 8, 9, 10, 11, 12, 13] [14, 15, 16] (by kernel_rfl) (fun _ _ _ _ h => h) ?_
        conv => whnf
        by_cases h0 : (j : Int) > 0
        · rw [decide_eq_true h0]
          conv => whnf
          obtain ⟨k, rfl⟩ : ∃ k, j = k + 1 := ⟨j - 1, by omega⟩
          refine ⟨⟨by omega, by omega⟩, ?_⟩
          conv => whnf
          rw [show (0 + ((k + 1 : Nat) : Int).toNat * 1) = k + 1 from by omega]
          refine aget_nums (by omega) ?_
          conv => whnf
          rw [show IntKind.i64.wrap (((k + 1 : Nat) : Int) - 1) = (k : Int) from by rw [w64 (by omega) (by omega)]; omega]
          refine ⟨⟨by omega, by omega⟩, ?_⟩
          conv => whnf
          rw [show (0 + (k : Int).toNat * 1) = k from by omega]
          refine aget_nums (by omega) ?_
          conv => whnf
          obtain ⟨x, hx⟩ : ∃ x : Nat, N[k + 1]'(by omega) = x := ⟨_, (Int.toNat_of_nonneg (hpN _ (List.getElem_mem _)).1).symm⟩
          obtain ⟨y, hy⟩ : ∃ y : Nat, N[k]'(by omega) = y := ⟨_, (Int.toNat_of_nonneg (hpN _ (List.getElem_mem _)).1).symm⟩
          have hxl := (hpN _ (List.getElem_mem (show k + 1 < N.length by omega))).2
          have hyl := (hpN _ (List.getElem_mem (show k < N.length by omega))).2
          have hdx : N.getD (k + 1) 0 = x := by rw [List.getD_eq_getElem?_getD, List.getElem?_eq_getElem (by omega), ← hx]; rfl
          have hdy : N.getD k 0 = y := by rw [List.getD_eq_getElem?_getD, List.getElem?_eq_getElem (by omega), ← hy]; rfl
          rw [hx] at hxl ⊢
          rw [hy] at hyl ⊢
          refine ACall.frame [0] [] rfl (args' := [.i .i64 x, .i .i64 y, .p (some (0, 0))]) (Hc := [.c [B]]) rfl ?_ (hcall x y (by omega) (by omega)) ?_
          · show [Blk.c [sub _ B]] = _
            rw [hsub]
          rintro r H ⟨rfl, rfl⟩
          refine ⟨.inl rfl, ?_⟩
          rw [show goA (ordI l) (k + 1) N = (if ordI l (N.getD (k + 1) 0) (N.getD k 0) < 0 then goA (ordI l) k (swapAt N k) else N) from rfl] at hgo
          rw [hdx, hdy] at hgo
          conv => whnf
          by_cases hlt : ordI l x y < 0
          · rw [decide_eq_true hlt]
            rw [if_pos hlt] at hgo
            conv => whnf
            refine ADraw.of tok mixed false [0, 1, 2, 3, 4, 5, 6, 7, 8, 9, 10, 11, 12, 13, 14] [15, 16, 17] (by kernel_rfl) (fun _ _ _ _ h => h) ?_
            conv => whnf
            have hwk : IntKind.i64.wrap (((k + 1 : Nat) : Int) - 1) = (k : Int) := by rw [w64 (by omega) (by omega)]; omega
            rw [hwk]
            refine ⟨⟨by omega, by omega⟩, ?_⟩
            conv => whnf
            rw [show (0 + (k : Int).toNat * 1) = k from by omega]
            refine aget_nums (by omega) ?_
            conv => whnf
            refine ⟨⟨by omega, by omega⟩, ?_⟩
            conv => whnf
            rw [show (0 + ((k + 1 : Nat) : Int).toNat * 1) = k + 1 from by omega]
            refine aget_nums (by omega) ?_
            conv => whnf
            refine ⟨⟨by omega, by omega⟩, ?_⟩
            conv => whnf
            refine ⟨by dsimp only; rw [nums_length]; omega, ?_⟩
            conv => whnf
            refine ⟨⟨by omega, by omega⟩, ?_⟩
            conv => whnf
            refine ⟨by dsimp only; rw [setCells_length, nums_length]; omega, ?_⟩
            conv => whnf
            refine Gh.regs [9, 8, 0, 1, 2, 3] (Gh.of ⟨_, ?_, k, swapAt N k, by omega, rfl, by rw [swapAt_length, hN], hpN.swapAt k (by omega), hgo, ?_, ?_⟩)
            · omega
            · show [Blk.c [sub _ B], _] = _
              rw [hsub]
              rw [show (0 + (k : Int).toNat * 1) = k from by omega, show (0 + ((k + 1 : Nat) : Int).toNat * 1) = k + 1 from by omega, hx, hy]
              unfold swapAt
              rw [hdx, hdy, setCells_nums, setCells_nums]
            · rw [hwk]; rfl
          · rw [decide_eq_false hlt]
            rw [if_neg hlt] at hgo
            conv => whnf
            rw [w64 (by omega) (by omega)]
            refine Gh.regs [8, 0, 1, 2, 3] (Gh.of ⟨L.length - (i + 1), by omega, i + 1, N, by omega, .inl (by omega), rfl, hN, hpN, ?_, ?_, rfl⟩)
            · rw [hrun, hgo, show L.length - (i + 1) = q from by omega]
            · show [Blk.c [sub _ B], _] = _
              rw [hsub]
        · rw [decide_eq_false h0]
          conv => whnf
          obtain rfl : j = 0 := by omega
          rw [show goA (ordI l) 0 N = N from rfl] at hgo
          rw [w64 (by omega) (by omega)]
          refine Gh.regs [8, 0, 1, 2, 3] (Gh.of ⟨L.length - (i + 1), by omega, i + 1, N, by omega, .inl (by omega), rfl, hN, hpN, ?_, rfl, rfl⟩)
          rw [hrun, hgo, show L.length - (i + 1) = q from by omega]
    · rw [decide_eq_false h]
      conv => whnf
      rw [show L.length - i = 0 from by omega] at hrun
      refine GhR.of ⟨rfl, ?_⟩
      rw [hrun]; rfl
end Go.AK
