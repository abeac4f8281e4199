import Derived.Test.YtmhagleekhihoaaSLawTwo
namespace Go.AK
open Go Go.RowKit Go.Proofs
set_option linter.unusedVariables false
theorem sorted_unique {R : Int → Int → Prop} (irr : ∀ a, ¬ R a a) (tr : ∀ a b c, R a b → R b c → R a c) : ∀ (L M : List Int), L.Perm M → L.Pairwise R → M.Pairwise R → L = M
  | [], M, h, _, _ => by rw [List.nil_perm.1 h]
  | a :: L, [], h, _, _ => by simp at h
  | a :: L, b :: M, h, hl, hm => by
    have h1 := List.pairwise_cons.1 hl
    have h2 := List.pairwise_cons.1 hm
    have e : a = b := Decidable.byContradiction fun hne => by
      have ha : a ∈ b :: M := h.mem_iff.1 (by simp)
      have hb : b ∈ a :: L := h.mem_iff.2 (by simp)
      rcases List.mem_cons.1 ha with ha | ha
      · exact hne ha
      · rcases List.mem_cons.1 hb with hb | hb
        · exact hne hb.symm
        · exact irr a (tr _ _ _ (h1.1 b hb) (h2.1 a ha))
    subst e
    rw [sorted_unique irr tr L M h.cons_inv h1.2 h2.2]
def turn (l : List Fr) (b : Nat) : List Fr := l.drop b ++ l.take b
theorem turn_length (l : List Fr) (b : Nat) : (turn l b).length = l.length := by
  unfold turn; rw [List.length_append, List.length_drop, List.length_take]; omega
theorem turn_mem {l : List Fr} {b : Nat} {F : Fr} (h : F ∈ turn l b) : F ∈ l := by
  rcases List.mem_append.1 h with h | h
  · exact List.mem_of_mem_drop h
  · exact List.mem_of_mem_take h
theorem at_turn {l : List Fr} {b : Nat} (hb : b < l.length) {i : Int} (h0 : 0 ≤ i) (h1 : i < l.length) : at_ (turn l b) i = at_ l ((i + b) % l.length) := by
  obtain ⟨i, rfl⟩ := Int.eq_ofNat_of_zero_le h0
  have hi : i < l.length := by omega
  rw [at_get _ i (by rw [turn_length]; exact hi)]
  by_cases c : i + b < l.length
  · rw [show ((i : Int) + b) % l.length = ((i + b : Nat) : Int) from by rw [Int.emod_eq_of_lt (by omega) (by omega)]; omega, at_get l (i + b) c]
    unfold turn
    rw [List.getElem_append_left (by rw [List.length_drop]; omega), List.getElem_drop]
    congr 1
    omega
  · rw [show ((i : Int) + b) % l.length = ((i + b - l.length : Nat) : Int) from by
      rw [show (i : Int) + b = (i + b - l.length : Nat) + (l.length : Int) from by omega, Int.add_emod_right, Int.emod_eq_of_lt (by omega) (by omega)], at_get l (i + b - l.length) (by omega)]
    unfold turn
    rw [List.getElem_append_right (by rw [List.length_drop]; omega), List.getElem_take]
    congr 1
    rw [List.length_drop]
    omega
theorem mod_back {i b n : Int} (h0 : 0 ≤ i) (h1 : i < n) : ((i + b) % n + -b) % n = i := by
  rw [Int.emod_add_emod, show i + b + -b = i from by omega, Int.emod_eq_of_lt h0 h1]
theorem mod_inj {i k b n : Int} (h0 : 0 ≤ i) (h1 : i < n) (h2 : 0 ≤ k) (h3 : k < n) (h : (i + b) % n = (k + b) % n) : i = k := by
  rw [← mod_back (b := b) h0 h1, h, mod_back h2 h3]
theorem turn_go {l : List Fr} {b : Nat} (h : AllGo l) (hb : b < l.length) : AllGo (turn l b) := by
  refine ⟨fun F hF => h.1 F (turn_mem hF), fun i k h0 h1 h2 h3 hne => ?_⟩
  rw [turn_length] at h1 h3
  rw [at_turn hb h0 h1, at_turn hb h2 h3]
  have hn : (0 : Int) < l.length := by omega
  refine h.2 _ _ (Int.emod_nonneg _ (by omega)) (Int.emod_lt_of_pos _ hn) (Int.emod_nonneg _ (by omega)) (Int.emod_lt_of_pos _ hn) fun e => hne (mod_inj h0 h1 h2 h3 e)
theorem go_chk {l : List Fr} {v : Int} (h : AllGo l) (hv : ChkR l v) : v = 0 := by
  rcases hv with ⟨_, F, hF, hn⟩ | ⟨_, hm, i, hi, hr⟩ | ⟨e, _⟩
  · exact absurd (h.1 F hF) hn
  · exfalso
    obtain ⟨G, hG, h2⟩ := List.any_eq_true.1 hr
    obtain ⟨b, hb, rfl⟩ := List.mem_iff_getElem.1 hG
    rw [List.length_take] at hb
    rw [List.getElem_take] at h2
    have h3 := (rival_rows (hm _ (List.getElem_mem _)) (hm _ (List.getElem_mem _))).1 h2
    have h4 := h.2 i b (by omega) (by omega) (by omega) (by omega) (by omega)
    rw [at_get l i hi, at_get l b (by omega)] at h4
    exact h4 h3
  · exact e
theorem turned_order {l : List Fr} {b : Nat} (h : AllGo l) (hb : b < l.length) : (ordL (turn l b)).map (fun (i : Int) => (i + b) % l.length) = ordL l := by
  have hn : (0 : Int) < l.length := by omega
  have h1 := ordL_good (turn_go h hb)
  have h2 := ordL_good h
  rw [turn_length] at h1
  refine sorted_unique (R := fun i k => cmpL (at_ l i).row (at_ l k).row < 0) (fun a h => by rw [cmpL_zero.2 rfl] at h; omega) (fun a b c => cmpL_trans) _ _ ?_ ?_ h2.2
  · refine (h1.1.map _).trans (List.Perm.trans ?_ h2.1.symm)
    refine (List.perm_ext_iff_of_nodup ?_ (iota_nodup _)).2 fun x => ?_
    · refine List.nodup_iff_pairwise_ne.2 (List.pairwise_map.2 ((List.nodup_iff_pairwise_ne.1 (iota_nodup _)).imp_of_mem fun {i k} hi hk hne e => hne ?_))
      have h1 := mem_iota.1 hi
      have h2 := mem_iota.1 hk
      exact mod_inj h1.1 h1.2 h2.1 h2.2 e
    · rw [mem_iota, List.mem_map]
      constructor
      · rintro ⟨i, hi, rfl⟩
        exact ⟨Int.emod_nonneg _ (by omega), Int.emod_lt_of_pos _ hn⟩
      · intro hx
        refine ⟨(x - b) % l.length, mem_iota.2 ⟨Int.emod_nonneg _ (by omega), Int.emod_lt_of_pos _ hn⟩, ?_⟩
        rw [Int.emod_add_emod, Int.sub_add_cancel, Int.emod_eq_of_lt hx.1 hx.2]
  · refine List.pairwise_map.2 (h1.2.imp_of_mem fun {i k} hi hk hlt => ?_)
    have hi := mem_iota.1 (h1.1.mem_iff.1 hi)
    have hk := mem_iota.1 (h1.1.mem_iff.1 hk)
    rw [at_turn hb hi.1 hi.2, at_turn hb hk.1 hk.2] at hlt
    exact hlt
end Go.AK
