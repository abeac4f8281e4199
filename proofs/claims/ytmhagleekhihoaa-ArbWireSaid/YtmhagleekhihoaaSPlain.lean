import Derived.Test.YtmhagleekhihoaaSWrong
namespace Go.AK
open Go Go.RowKit Go.Proofs
set_option linter.unusedVariables false
set_option maxRecDepth 100000
theorem placeL_ge : ∀ (L M : List Int) (k : Int), placeL L M k = -1 ∨ k ≤ placeL L M k
  | [], M, k => .inl rfl
  | a :: L, [], k => .inl rfl
  | a :: L, b :: M, k => by
    unfold placeL
    split
    · rcases placeL_ge L M (k + 1) with h | h
      · exact .inl h
      · exact .inr (by omega)
    · exact .inr (Int.le_refl _)
theorem placeL_eq : ∀ (L M : List Int) (k : Int), 0 ≤ k → L.length = M.length → placeL L M k < 0 → L = M
  | [], [], k, _, _, _ => rfl
  | a :: L, b :: M, k, hk, hl, h => by
    unfold placeL at h
    split at h
    · rename_i e
      rw [e, placeL_eq L M (k + 1) (by omega) (by simpa using hl) h]
    · omega
theorem placeL_self : ∀ (L : List Int) (k : Int), placeL L L k = -1
  | [], k => rfl
  | a :: L, k => by unfold placeL; rw [if_pos rfl]; exact placeL_self L _
theorem placeL_at : ∀ (i : Nat) (L M : List Int) (k : Int), 0 ≤ k → i < L.length → i < M.length → L.getD i 0 ≠ M.getD i 0 → 0 ≤ placeL L M k
  | i, [], M, k, _, h, _, _ => by simp at h
  | i, a :: L, [], k, _, _, h, _ => by simp at h
  | 0, a :: L, b :: M, k, hk, _, _, h => by unfold placeL; rw [if_neg (by simpa using h)]; exact hk
  | i + 1, a :: L, b :: M, k, hk, h1, h2, h => by
    unfold placeL
    split
    · exact placeL_at i L M (k + 1) (by omega) (by simpa using h1) (by simpa using h2) (by simpa using h)
    · exact hk
theorem loses_place : ∀ (L M : List Int) (k : Int), 0 ≤ k → isLv L → losesL L M k = if placeL L M k < 0 then -1 else if L.getD (placeL L M k - k).toNat 0 = 0 then -1 else placeL L M k
  | [], M, k, hk, _ => rfl
  | a :: L, [], k, hk, _ => rfl
  | a :: L, b :: M, k, hk, hl => by
    have h1 := isLv_cons.1 hl
    unfold losesL placeL
    by_cases e : a = b
    · rw [if_pos e, if_pos e, loses_place L M (k + 1) (by omega) h1.2]
      rcases placeL_ge L M (k + 1) with h | h
      · rw [h]; rfl
      · have h2 : ¬ placeL L M (k + 1) < 0 := by omega
        rw [if_neg h2, if_neg h2]
        obtain ⟨n, hn⟩ : ∃ n : Nat, placeL L M (k + 1) - (k + 1) = n := ⟨(placeL L M (k + 1) - (k + 1)).toNat, by omega⟩
        rw [hn, show placeL L M (k + 1) - k = ((n + 1 : Nat) : Int) from by omega, Int.toNat_natCast, Int.toNat_natCast, List.getD_cons_succ]
    · rw [if_neg e, if_neg e, if_neg (by omega : ¬ k < 0), Int.sub_self]
      show _ = if a = 0 then -1 else k
      rcases h1.1 with rfl | rfl
      · rfl
      · rfl
theorem row_lv (F : Fr) : isLv F.row := by
  have hr : F.rt = 0 ∨ F.rt = 1 := by unfold Fr.rt; split <;> simp
  unfold Fr.row
  split
  · exact isLv_append.2 ⟨isLv_append.2 ⟨isLv_append.2 ⟨ofI_lv _ _, isLv_cons.2 ⟨.inr rfl, isLv_cons.2 ⟨.inr rfl, isLv_nil⟩⟩⟩, ofI_lv _ _⟩, isLv_cons.2 ⟨hr, isLv_nil⟩⟩
  · exact isLv_append.2 ⟨ofI_lv _ _, isLv_cons.2 ⟨hr, isLv_cons.2 ⟨.inl rfl, isLv_nil⟩⟩⟩
theorem row_len (F : Fr) : F.row.length = if F.ext = true then 32 else 13 := by
  unfold Fr.row
  split <;> simp [ofI_length]
theorem row_twelve (F : Fr) : F.row.getD 12 0 = if F.ext = true then 1 else 0 := by
  unfold Fr.row
  split
  · rw [List.getD_eq_getElem?_getD, List.append_assoc, List.append_assoc, List.getElem?_append_right (by rw [ofI_length]; omega), ofI_length]; rfl
  · rw [List.getD_eq_getElem?_getD, List.getElem?_append_right (by rw [ofI_length]; omega), ofI_length]; rfl
/-- No frame's levels begin another one's. -/
theorem place_rows {F G : Fr} : placeL F.row G.row 0 < 0 ↔ F.row = G.row := by
  constructor
  · intro h
    by_cases e : F.ext = G.ext
    · exact placeL_eq _ _ 0 (by omega) (by rw [row_len, row_len, e]) h
    · exfalso
      have := placeL_at 12 F.row G.row 0 (by omega) (by rw [row_len]; split <;> omega) (by rw [row_len]; split <;> omega) (by
        rw [row_twelve, row_twelve]
        cases hf : F.ext <;> cases hg : G.ext <;> first | (rw [hf, hg] at e; exact absurd rfl e) | simp)
      omega
  · intro h; rw [h, placeL_self]; omega
theorem cmpI_zero {a b : Int} : cmpI a b = 0 ↔ a = b := by
  unfold cmpI
  split
  · omega
  · split <;> omega
theorem cmpL_zero : ∀ {L M : List Int}, cmpL L M = 0 ↔ L = M
  | [], [] => by simp [cmpL]
  | [], _ :: _ => by simp [cmpL]
  | _ :: _, [] => by simp [cmpL]
  | a :: L, b :: M => by
    unfold cmpL
    split
    · rename_i h
      rw [cmpL_zero, cmpI_zero.1 h]; simp
    · rename_i h
      constructor
      · intro h2; exact absurd h2 h
      · intro h2; cases h2; exact absurd (cmpI_zero.2 rfl) h
theorem rival_rows {F G : Fr} (hF : F.may) (hG : G.may) : F.rival G = true ↔ F.row = G.row := by
  unfold Fr.rival frcmp Fr.rw
  rw [if_pos hF, if_pos hG, decide_eq_true ⟨hF, hG⟩, Bool.true_and, decide_eq_true_eq, cmpL_zero]
/-- Both say the same of frames. -/
theorem wrong_chk {L : List Fr} {v u : Int} (h : ChkR L v) (k : WrongR L u) : v = u := by
  rcases h with ⟨rfl, F, hF, hn⟩ | ⟨rfl, hm, i, hi, hr⟩ | ⟨rfl, hm, hr⟩ <;> rcases k with ⟨rfl, G, hG, kn⟩ | ⟨rfl, km, a, b, ha, hb, kr⟩ | ⟨rfl, km, kr⟩
  · rfl
  · exact absurd (km F hF) hn
  · exact absurd (km F hF) hn
  · exact absurd (hm G hG) kn
  · rfl
  · exfalso
    obtain ⟨G, hG, h2⟩ := List.any_eq_true.1 hr
    obtain ⟨b, hb, rfl⟩ := List.mem_iff_getElem.1 hG
    rw [List.length_take] at hb
    rw [List.getElem_take] at h2
    have h3 := (rival_rows (hm _ (List.getElem_mem _)) (hm _ (List.getElem_mem _))).1 h2
    have h4 := kr i b hi (by omega)
    rw [h3, placeL_self] at h4; omega
  · exact absurd (hm G hG) kn
  · exfalso
    have h2 := hr a ha
    have h3 : (L.take a).any (fun G => L[a].rival G) = true := List.any_eq_true.2 ⟨L[b], by
      rw [show L[b] = (L.take a)[b]'(by rw [List.length_take]; omega) from (List.getElem_take ..).symm]
      exact List.getElem_mem _, (rival_rows (hm _ (List.getElem_mem _)) (hm _ (List.getElem_mem _))).2 (place_rows.1 kr)⟩
    rw [h2] at h3; cases h3
  · rfl
end Go.AK
