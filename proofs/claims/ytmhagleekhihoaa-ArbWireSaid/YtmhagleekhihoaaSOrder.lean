import Derived.Test.YtmhagleekhihoaaSSortF
namespace Go.AK
open Go Go.RowKit Go.Proofs
set_option linter.unusedVariables false
set_option maxRecDepth 100000
def iota (n : Nat) : List Int := (List.range n).map fun (i : Nat) => (i : Int)
theorem iota_length (n : Nat) : (iota n).length = n := by simp [iota]
theorem iota_get (n i : Nat) (h : i < n) : (iota n).getD i 0 = i := by simp [iota, h]
theorem iota_plc (n : Nat) : Plc n (iota n) := fun x hx => by
  obtain ⟨i, hi, rfl⟩ := List.mem_map.1 hx
  have := List.mem_range.1 hi
  omega
/-- The places of frames, as they win. -/
def ordL (l : List Fr) : List Int := insFrom (ordI l) (l.length - 1) 1 (iota l.length)
theorem insFrom_length (cf : Int → Int → Int) : ∀ (n i : Nat) (L : List Int), (insFrom cf n i L).length = L.length
  | 0, i, L => rfl
  | n + 1, i, L => by rw [insFrom, insFrom_length cf n, goA_length]
theorem ordL_length (l : List Fr) : (ordL l).length = l.length := by rw [ordL, insFrom_length, iota_length]
theorem order_spec (l : List Fr) (hl : l.length ≤ 12) (hok : ∀ F ∈ l, F.ok) :
    ACall Try.prog 38 [.rs (frs l) 0 12 l.length] [] fun r H => ∃ v, ChkR l v ∧ ((v ≠ 0 ∧ r = .ret (.tup [.sl none 0 0 0, .i .i64 v]) ∧ H = []) ∨
      (v = 0 ∧ r = .ret (.tup [.sl (some (0, 0)) 1 l.length l.length, .i .i64 0]) ∧ H = [.c (ints (ordL l))])) := by
  refine ACall.gh ?_
  refine ACall.enter tok false Try.func38 rfl rfl rfl (AW_sound (ip := false) tok _ _ _ _ ?_)
  conv => whnf
  refine ACall.frame [] [] rfl (args' := [.rs (frs l) 0 12 l.length]) (Hc := []) (by show [AV.rs (subs _ (frs l)) 0 12 l.length] = _; rw [subs_frs]) rfl (acheck_spec l (by omega) hok) ?_
  rintro r H ⟨v, hv, rfl, rfl⟩
  refine ⟨.inl rfl, ?_⟩
  conv => whnf
  by_cases h0 : v = 0
  · rw [show (v != 0) = false from by rw [h0]; rfl]
    conv => whnf
    refine ⟨⟨by omega, by omega, by show (8 : Int) * l.length ≤ _; omega, by omega⟩, ?_⟩
    conv => whnf
    rw [show (List.replicate (l.length : Int).toNat (AV.i .i64 0).cells).flatten = ints (List.replicate l.length 0) from by simp [AV.cells, nums]]
    rw [Int.toNat_natCast]
    generalize hn : l.length = n
    refine ALoop.ind (ip := false) tok (fun m r H => ∃ (k : Nat) (L : List Int), k ≤ n ∧ m = n - k ∧ L.length = n ∧ (∀ j, j < k → L.getD j 0 = j) ∧ H = [.c [.rs (frs l) 0 12 n], .c (ints L)] ∧
        r = [(17, .i .i64 k), (16, .i .i64 n), (5, .sl (some (1, 0)) 1 n n), (1, .p (some (0, 0)))]) n ?_ ?_
    · refine Gh.regs [17, 16, 5, 1] (Gh.of ⟨0, List.replicate n 0, by omega, by omega, by simp, by intro j h1; omega, rfl, rfl⟩)
    · rintro m r H ⟨k, L, hk, rfl, hLl, hL, rfl, rfl⟩
      conv => whnf
      by_cases h : (k : Int) < n
      · rw [decide_eq_true h]
        conv => whnf
        refine ⟨⟨by omega, by omega⟩, ?_⟩
        conv => whnf
        refine ⟨by dsimp only; rw [nums_length]; omega, ?_⟩
        conv => whnf
        rw [show 0 + (k : Int).toNat * 1 = k from by omega]
        rw [w64 (by omega) (by omega)]
        refine Gh.regs [17, 16, 5, 1] (Gh.of ⟨_, ?_, k + 1, L.set k k, by omega, rfl, by simp [hLl], ?_, ?_, rfl⟩)
        · omega
        · intro j h2
          rw [getD_set L _ _ _ (by omega)]
          by_cases e : k = j
          · rw [if_pos e, e]
          · rw [if_neg e]; exact hL j (by omega)
        · show [Blk.c _, Blk.c (setCells (ints L) k (AV.i .i64 k).cells)] = _
          rw [setCells_nums]
      · rw [decide_eq_false h]
        conv => whnf
        have hkn : k = n := by omega
        subst hkn
        have hLi : L = iota k := list_ext (by rw [hLl, iota_length]) fun i hi => by rw [hL i (by omega), iota_get k i (by omega)]
        subst hLi
        have hs := sortf_spec l hok (iota k) (by omega) (by rw [hn]; exact iota_plc k) k
        rw [iota_length, hn] at hs
        refine ACall.mono hs ?_
        rintro r H ⟨rfl, rfl⟩
        conv => whnf
        refine GhR.sel [1] rfl (GhR.of ⟨v, hv, .inr ⟨h0, rfl, ?_⟩⟩)
        show [Blk.c (subs _ (ints _))] = _
        rw [subs_nums, ordL, hn]
  · rw [show (v != 0) = true from bne_iff_ne.2 h0]
    conv => whnf
    refine GhR.sel [] rfl (GhR.of ⟨v, hv, .inl ⟨h0, rfl, rfl⟩⟩)
theorem winner_spec (l : List Fr) (hl : l.length ≤ 12) (hok : ∀ F ∈ l, F.ok) :
    ACall Try.prog 37 [.rs (frs l) 0 12 l.length] [] fun r H => (l = [] ∧ r = .ret (.tup [.i .i64 0, .i .i64 16]) ∧ H = []) ∨ (l ≠ [] ∧ ∃ v, ChkR l v ∧ r = .ret (.tup [.i .i64 (if v = 0 then (ordL l).getD 0 0 else 0), .i .i64 v]) ∧ H = []) := by
  refine ACall.gh ?_
  refine ACall.enter tok false Try.func37 rfl rfl rfl (AW_sound (ip := false) tok _ _ _ _ ?_)
  conv => whnf
  cases l with
  | nil =>
    rw [show (((([] : List Fr).length : Nat) : Int) == 0) = true from rfl]
    conv => whnf
    refine GhR.of (.inl ⟨rfl, rfl, rfl⟩)
  | cons F l =>
    rw [show ((((F :: l).length : Nat) : Int) == 0) = false from beq_eq_false_iff_ne.2 (by simp only [List.length_cons]; omega)]
    conv => whnf
    refine ACall.mono (order_spec (F :: l) hl hok) ?_
    rintro r H ⟨v, hv, ⟨h0, rfl, rfl⟩ | ⟨h0, rfl, rfl⟩⟩
    · conv => whnf
      rw [show (v != 0) = true from bne_iff_ne.2 h0]
      conv => whnf
      refine GhR.of (.inr ⟨by simp, v, hv, ?_, rfl⟩)
      rw [if_neg h0]
    · conv => whnf
      refine ⟨⟨by omega, by simp⟩, ?_⟩
      conv => whnf
      refine aget_nums (by rw [ordL_length]; simp) ?_
      conv => whnf
      refine GhR.sel [] rfl (GhR.of (.inr ⟨by simp, v, hv, ?_, rfl⟩))
      rw [if_pos h0, h0, List.getD_eq_getElem?_getD, List.getElem?_eq_getElem (by rw [ordL_length]; simp)]
      rfl
end Go.AK
