import Derived.Test.YtmhagleekhihoaaSCmp
namespace Go.AK
open Go Go.RowKit Go.Proofs
set_option linter.unusedVariables false
set_option maxRecDepth 100000
def frs : List Fr → List AV
  | [] => []
  | F :: L => F.cells ++ frs L
theorem frs_length : ∀ (L : List Fr), (frs L).length = L.length * 12
  | [] => rfl
  | F :: L => by rw [frs, List.length_append, frs_length L, List.length_cons]; show 12 + _ = _; omega
theorem frs_append : ∀ (L M : List Fr), frs (L ++ M) = frs L ++ frs M
  | [], M => rfl
  | F :: L, M => by rw [List.cons_append, frs, frs, frs_append L M, List.append_assoc]
theorem frs_drop : ∀ (L : List Fr) (k : Nat), (frs L).drop (k * 12) = frs (L.drop k)
  | L, 0 => by simp
  | [], k + 1 => by simp [frs]
  | F :: L, k + 1 => by
    rw [List.drop_succ_cons, ← frs_drop L k, frs, show (k + 1) * 12 = 12 + k * 12 from by omega, ← List.drop_drop]
    rfl
theorem frs_take (L : List Fr) (k : Nat) : (frs L).take (k * 12) = frs (L.take k) := by
  by_cases h : k ≤ L.length
  · have h1 : (frs (L.take k)).length = k * 12 := by rw [frs_length, List.length_take]; omega
    have h2 := frs_append (L.take k) (L.drop k)
    rw [List.take_append_drop] at h2
    rw [h2, ← h1, List.take_left]
  · rw [List.take_of_length_le (by rw [frs_length]; omega), List.take_of_length_le (by omega)]
theorem subs_frs (φ : Nat → Sb) : ∀ (L : List Fr), subs φ (frs L) = frs L
  | [] => rfl
  | F :: L => by
    have := subs_frs φ L
    show (.i .i64 F.id :: .b F.ext :: .b F.rtr :: .i .i64 F.len :: .i .u8 F.b0 :: .i .u8 F.b1 :: .i .u8 F.b2 :: .i .u8 F.b3 :: .i .u8 F.b4 :: .i .u8 F.b5 :: .i .u8 F.b6 :: .i .u8 F.b7 :: subs φ (frs L)) = _
    rw [this]; rfl
theorem ones_frs : ∀ (L : List Fr), ones (frs L) = true
  | [] => rfl
  | F :: L => ones_frs L
theorem nros_frs : ∀ (L : List Fr), nros (frs L) = true
  | [] => rfl
  | F :: L => nros_frs L
theorem frs_get {L : List Fr} {k : Nat} (hk : k < L.length) {j : Nat} (hj : j < 12) : (frs L)[k * 12 + j]? = L[k].cells[j]? := by
  rw [← List.getElem?_drop, frs_drop, List.drop_eq_getElem_cons hk, frs, List.getElem?_append_left (by exact hj)]
theorem aget_fr {L : List Fr} {k o : Nat} (ho : o = k * 12) (hk : k < L.length) {K : AV → AV → AV → AV → AV → AV → AV → AV → AV → AV → AV → AV → Prop} (h : K (.i .i64 L[k].id) (.b L[k].ext) (.b L[k].rtr) (.i .i64 L[k].len) (.i .u8 L[k].b0) (.i .u8 L[k].b1) (.i .u8 L[k].b2) (.i .u8 L[k].b3) (.i .u8 L[k].b4) (.i .u8 L[k].b5) (.i .u8 L[k].b6) (.i .u8 L[k].b7)) :
    aget (frs L) o fun v0 => aget (frs L) (o + 1) fun v1 => aget (frs L) ((o + 1) + 1) fun v2 => aget (frs L) (((o + 1) + 1) + 1) fun v3 => aget (frs L) ((((o + 1) + 1) + 1) + 1) fun v4 => aget (frs L) (((((o + 1) + 1) + 1) + 1) + 1) fun v5 => aget (frs L) ((((((o + 1) + 1) + 1) + 1) + 1) + 1) fun v6 => aget (frs L) (((((((o + 1) + 1) + 1) + 1) + 1) + 1) + 1) fun v7 => aget (frs L) ((((((((o + 1) + 1) + 1) + 1) + 1) + 1) + 1) + 1) fun v8 => aget (frs L) (((((((((o + 1) + 1) + 1) + 1) + 1) + 1) + 1) + 1) + 1) fun v9 => aget (frs L) ((((((((((o + 1) + 1) + 1) + 1) + 1) + 1) + 1) + 1) + 1) + 1) fun v10 => aget (frs L) (((((((((((o + 1) + 1) + 1) + 1) + 1) + 1) + 1) + 1) + 1) + 1) + 1) fun v11 => K v0 v1 v2 v3 v4 v5 v6 v7 v8 v9 v10 v11 := by
  subst ho
  have g : ∀ j (v : AV), j < 12 → L[k].cells[j]? = some v → (frs L)[k * 12 + j]? = some v := fun j v hj h => by rw [frs_get hk hj, h]
  unfold aget
  rw [show (frs L)[k * 12]? = some (.i .i64 L[k].id) from g 0 _ (by omega) rfl]
  dsimp only
  rw [show (frs L)[(k * 12 + 1)]? = some (.b L[k].ext) from g 1 _ (by omega) rfl]
  dsimp only
  rw [show (frs L)[((k * 12 + 1) + 1)]? = some (.b L[k].rtr) from g 2 _ (by omega) rfl]
  dsimp only
  rw [show (frs L)[(((k * 12 + 1) + 1) + 1)]? = some (.i .i64 L[k].len) from g 3 _ (by omega) rfl]
  dsimp only
  rw [show (frs L)[((((k * 12 + 1) + 1) + 1) + 1)]? = some (.i .u8 L[k].b0) from g 4 _ (by omega) rfl]
  dsimp only
  rw [show (frs L)[(((((k * 12 + 1) + 1) + 1) + 1) + 1)]? = some (.i .u8 L[k].b1) from g 5 _ (by omega) rfl]
  dsimp only
  rw [show (frs L)[((((((k * 12 + 1) + 1) + 1) + 1) + 1) + 1)]? = some (.i .u8 L[k].b2) from g 6 _ (by omega) rfl]
  dsimp only
  rw [show (frs L)[(((((((k * 12 + 1) + 1) + 1) + 1) + 1) + 1) + 1)]? = some (.i .u8 L[k].b3) from g 7 _ (by omega) rfl]
  dsimp only
  rw [show (frs L)[((((((((k * 12 + 1) + 1) + 1) + 1) + 1) + 1) + 1) + 1)]? = some (.i .u8 L[k].b4) from g 8 _ (by omega) rfl]
  dsimp only
  rw [show (frs L)[(((((((((k * 12 + 1) + 1) + 1) + 1) + 1) + 1) + 1) + 1) + 1)]? = some (.i .u8 L[k].b5) from g 9 _ (by omega) rfl]
  dsimp only
  rw [show (frs L)[((((((((((k * 12 + 1) + 1) + 1) + 1) + 1) + 1) + 1) + 1) + 1) + 1)]? = some (.i .u8 L[k].b6) from g 10 _ (by omega) rfl]
  dsimp only
  rw [show (frs L)[(((((((((((k * 12 + 1) + 1) + 1) + 1) + 1) + 1) + 1) + 1) + 1) + 1) + 1)]? = some (.i .u8 L[k].b7) from g 11 _ (by omega) rfl]
  exact h
/-- The place of the first of a row that is such a one; -1: none is. -/
def IsIdx {α : Type} (p : α → Bool) (L : List α) (v : Int) : Prop :=
  (∃ k, ∃ h : k < L.length, v = k ∧ p L[k] = true ∧ ∀ j (h : j < L.length), j < k → p L[j] = false) ∨ (v = -1 ∧ ∀ F ∈ L, p F = false)
theorem idx_none {α : Type} {p : α → Bool} {L : List α} (h : ∀ j (h : j < L.length), j < L.length → p L[j] = false) : IsIdx p L (-1) :=
  .inr ⟨rfl, fun F hF => by
    obtain ⟨j, hj, rfl⟩ := List.mem_iff_getElem.1 hF
    exact h j hj hj⟩
theorem IsIdx.pos {α : Type} {p : α → Bool} {L : List α} {v : Int} (h : IsIdx p L v) : 0 ≤ v ↔ ∃ x ∈ L, p x = true := by
  rcases h with ⟨k, h1, rfl, h2, h3⟩ | ⟨rfl, h1⟩
  · exact ⟨fun _ => ⟨_, List.getElem_mem h1, h2⟩, fun _ => by omega⟩
  · refine ⟨fun h => by omega, fun ⟨x, h2, h3⟩ => ?_⟩
    rw [h1 x h2] at h3; cases h3
theorem index_spec (L : List Int) (x : Int) (hL : L.length < 1000000000) : ACall Try.prog 67 [.rs (ints L) 0 1 L.length, .i .i64 x] [] fun r H => ∃ v, IsIdx (fun y => x == y) L v ∧ r = .ret (.i .i64 v) ∧ H = [] := by
  refine ACall.enter tok false Try.func67 rfl rfl rfl (AW_sound (ip := false) tok _ _ _ _ ?_)
  conv => whnf
  refine ALoop.ind (ip := false) tok (fun m r H => ∃ (k : Nat), k ≤ L.length ∧ m = L.length - k ∧ (∀ j (h : j < L.length), j < k → (x == L[j]) = false) ∧ H = [] ∧
    r = [(8, .i .i64 k), (7, .i .i64 L.length), (0, .rs (ints L) 0 1 L.length), (1, .i .i64 x), (4, .i .i64 0)]) L.length ?_ ?_
  · exact Gh.regs [8, 7, 0, 1, 4] (Gh.of ⟨0, by omega, by omega, fun j _ h => by omega, rfl, rfl⟩)
  · rintro m r H ⟨k, hk, rfl, hn, rfl, rfl⟩
    conv => whnf
    by_cases h : (k : Int) < L.length
    · rw [decide_eq_true h]
      conv => whnf
      refine ⟨⟨by omega, h⟩, ?_⟩
      conv => whnf
      rw [show (0 + (k : Int).toNat * 1) = k from by omega]
      refine aget_nums (by omega) ?_
      conv => whnf
      cases he : x == L[k]'(by omega)
      · conv => whnf
        rw [w64 (by omega) (by omega)]
        refine Gh.regs [8, 7, 0, 1, 4] (Gh.of ⟨_, ?_, k + 1, by omega, rfl, ?_, rfl, rfl⟩)
        · omega
        · intro j hj hj2
          by_cases e : j = k
          · subst e; exact he
          · exact hn j hj (by omega)
      · conv => whnf
        exact ⟨_, .inl ⟨k, by omega, rfl, he, hn⟩, rfl, rfl⟩
    · rw [decide_eq_false h]
      conv => whnf
      have : k = L.length := by omega
      subst this
      exact ⟨_, idx_none hn, rfl, rfl⟩
theorem contains_spec (L : List Int) (x : Int) (hL : L.length < 1000000000) : ACall Try.prog 52 [.rs (ints L) 0 1 L.length, .i .i64 x] [] fun r H => r = .ret (.b (decide (x ∈ L))) ∧ H = [] := by
  refine ACall.enter tok false Try.func52 rfl rfl rfl (AW_sound (ip := false) tok _ _ _ _ ?_)
  conv => whnf
  refine ACall.mono (index_spec L x hL) ?_; rintro r H ⟨v, hv, rfl, rfl⟩
  conv => whnf
  refine ⟨?_, rfl⟩
  have := hv.pos
  have e : (v ≥ 0) ↔ x ∈ L := by
    show 0 ≤ v ↔ _
    rw [this]
    constructor
    · rintro ⟨y, h1, h2⟩; rw [beq_iff_eq.1 h2]; exact h1
    · intro h; exact ⟨x, h, beq_self_eq_true x⟩
  simp only [decide_eq_decide.2 e]
end Go.AK
