/- Layer 5's functions, as far as a codec's laws reach them, in plain lists. -/
import Derived.Test.YtakemodmdhglnaaPAx33
import Derived.Test.YtakemodmdhglnaaPAx38
import Derived.Test.YtakemodmdhglnaaPAx35
import Derived.Test.YtakemodmdhglnaaQStuffCore
import Derived.Test.YtakemodmdhglnaaQRef01B
namespace Go.Proofs.Ytakemodmdhglnaa.Pure
open Go.RowKit Go.Proofs.Ytakemodmdhglnaa.PA Go.Proofs.YtakemodmdhglnaaW.PrintWords Go.Proofs.YtakemodmdhglnaaW.PrintLast Go.Proofs.YtakemodmdhglnaaW.PrintMore
theorem mx_eq (a b : Int) : mx a b = max a b := by unfold mx; split <;> omega
theorem take_snoc_rd (l : List Int) (i : Nat) (hi : i < l.length) : l.take (i + 1) = l.take i ++ [rd l (i : Int)] := by
  rw [List.take_succ_eq_append_getElem hi, rd_at l i hi]
theorem rd_last (l : List Int) (h : 0 < l.length) : l.getLast? = some (rd l ((l.length : Int) - 1)) := by
  rcases snoc_cases l with rfl | ⟨t, y, rfl⟩
  · simp at h
  · rw [last_snoc]
    unfold rd
    rw [show (((t ++ [y]).length : Int) - 1).toNat = t.length by rw [List.length_append, List.length_singleton]; omega]
    simp
theorem tellRun_eq (o : List Int) (x : Int) : tellRun o (tailRun o : Nat) x = ((tailRun (o ++ [x]) : Nat) : Int) := by
  unfold tellRun
  rw [tailRun_snoc]
  rcases snoc_cases o with rfl | ⟨t, y, rfl⟩
  · simp
  · rw [rd_last (t ++ [y]) (by simp)]
    simp only [List.length_append, List.length_singleton, Nat.zero_lt_succ, true_and, Option.some.injEq]
    split <;> omega
theorem addStep_eq (o : List Int) (x : Int) : addStep (o, ((tailRun o : Nat) : Int)) x = (addS o x, ((tailRun (addS o x) : Nat) : Int)) := by
  unfold addStep addS
  simp only
  rw [tellRun_eq]
  by_cases h : tailRun (o ++ [x]) = 5
  · rw [if_pos (by omega), if_pos h]
    have := tellRun_eq (o ++ [x]) (1 - x)
    rw [h] at this
    rw [show ((5 : Nat) : Int) = 5 from rfl] at this
    rw [this]
  · rw [if_neg (by omega), if_neg h]
theorem addAll_eq (l : List Int) : addAll l = stuffed l := by
  unfold addAll
  suffices h : l.foldl addStep ([], 0) = (stuffed l, ((tailRun (stuffed l) : Nat) : Int)) by rw [h]
  induction l using snoc_ind with
  | h0 => rfl
  | h1 l x ih => rw [List.foldl_append, ih, stuffed_snoc]; exact addStep_eq _ _
theorem add_lv {l : List Int} (h : isLv l) (hl : l.length ≤ 1000000) : stuff_Add.f l = some (stuffed l) := by
  unfold stuff_Add.f
  rw [chk_of_lv h, if_neg (by omega), if_pos hl, addAll_eq]
theorem add_no {l : List Int} (h : ¬ isLv l) : stuff_Add.f l = some [] := by
  unfold stuff_Add.f
  rw [if_pos (chk_ge h).1]
theorem count_lv {l : List Int} (h : isLv l) (hl : l.length ≤ 1000000) : stuff_Count.f l = some (((stuffed l).length : Int) - l.length) := by
  unfold stuff_Count.f
  have := stuffed_length l
  rw [add_lv h hl]
  simp only [Option.bind_some]
  rw [wrap_in (by omega) (by omega), mx_eq]
  congr 1
  omega
theorem count_no {l : List Int} (h : ¬ isLv l) (hl : l.length ≤ 1000000000) : stuff_Count.f l = some 0 := by
  unfold stuff_Count.f
  rw [add_no h]
  simp only [Option.bind_some, List.length_nil]
  rw [wrap_in (by omega) (by omega), mx_eq]
  congr 1
  omega
theorem most_yes (n : Int) (h0 : 0 ≤ n) (h : n ≤ 9223372036854775807) : stuff_Most.f n = some (if n ≤ 0 then 0 else (n - 1) / 4, 0) := by
  unfold stuff_Most.f
  rw [if_neg (by omega), if_pos h]
  rfl
theorem most_no (n : Int) (h : n < 0) : stuff_Most.f n = some (0, 10) := by
  unfold stuff_Most.f
  rw [if_pos h]
/-- The last five, by themselves. -/
theorem last_five (l : List Int) (h : 5 ≤ l.length) : ∃ p a b c d e, l = p ++ [a, b, c, d, e] := by
  refine ⟨l.take (l.length - 5), ?_⟩
  have h1 : (l.drop (l.length - 5)).length = 5 := by rw [List.length_drop]; omega
  have h2 := List.take_append_drop (l.length - 5) l
  match hd : l.drop (l.length - 5), h1 with
  | [a, b, c, d, e], _ =>
    rw [hd] at h2
    exact ⟨a, b, c, d, e, h2.symm⟩
theorem tailRun_five (p : List Int) (a b c d e : Int) : 5 ≤ tailRun (p ++ [a, b, c, d, e]) ↔ (a = b ∧ a = c ∧ a = d ∧ a = e) := by
  have e1 : p ++ [a, b, c, d, e] = p ++ [a] ++ [b] ++ [c] ++ [d] ++ [e] := by simp
  have hp := tailRun_pos p a
  rw [e1, tailRun_snoc _ e, tailRun_snoc _ d, tailRun_snoc _ c, tailRun_snoc _ b, last_snoc, last_snoc, last_snoc, last_snoc]
  simp only [Option.some.injEq]
  generalize tailRun (p ++ [a]) = t at hp
  by_cases h1 : a = b <;> by_cases h2 : b = c <;> by_cases h3 : c = d <;> by_cases h4 : d = e
  all_goals
    first | rw [if_pos h4] | rw [if_neg h4]
    try (first | rw [if_pos h3] | rw [if_neg h3])
    try (first | rw [if_pos h2] | rw [if_neg h2])
    try (first | rw [if_pos h1] | rw [if_neg h1])
    omega
theorem rd_five (p q : List Int) (i : Int) (j : Nat) (hi : i = p.length + j) : rd (p ++ q) i = q.getD j 0 := by
  unfold rd
  rw [show i.toNat = p.length + j by omega, List.getD_eq_getElem?_getD, List.getElem?_append_right (by omega), Nat.add_sub_cancel_left, List.getD_eq_getElem?_getD]
theorem five_eq (l : List Int) (hl : l.length ≤ 1000000000) {k : Nat} (hk : 6 < k) : magnetoref05_Five.f k l = some (decide (5 ≤ tailRun l)) := by
  unfold magnetoref05_Five.f
  by_cases h5 : (l.length : Int) < 5
  · have := tailRun_le l
    rw [if_pos h5, decide_eq_false (by omega)]
  · rw [if_neg h5]
    obtain ⟨p, a, b, c, d, e, rfl⟩ := last_five l (by omega)
    have hlen : ((p ++ [a, b, c, d, e]).length : Int) = p.length + 5 := by rw [List.length_append]; simp
    have hm : p.length ≤ 1000000000 := by omega
    rw [hlen, wrap_in (by omega) (by omega)]
    have r0 : rd (p ++ [a, b, c, d, e]) (wrap64 (((p.length : Int) + 5) - 5)) = a := by rw [wrap_in (by omega) (by omega)]; exact rd_five p _ _ 0 (by omega)
    have step : ∀ (k i : Nat) (x : Int), 1 ≤ i → i ≤ 4 → rd (p ++ [a, b, c, d, e]) ((p.length : Int) + i) = x →
        magnetoref05_Five.l0 (k + 1) (p ++ [a, b, c, d, e]) ((p.length : Int) + 5) ((p.length : Int) + i) = if x = a then magnetoref05_Five.l0 k (p ++ [a, b, c, d, e]) ((p.length : Int) + 5) ((p.length : Int) + (i + 1 : Nat)) else some false := by
      intro k i x h1 h4 hx
      simp only [magnetoref05_Five.l0]
      rw [hlen, if_pos (by omega), if_pos (by omega), if_pos (by omega), r0, hx, wrap_in (x := ((p.length : Int) + 5) - 5) (by omega) (by omega), if_pos (by omega), if_pos (by omega), wrap_in (by omega) (by omega), show (p.length : Int) + i + 1 = (p.length : Int) + (i + 1 : Nat) by omega]
    obtain ⟨k, rfl⟩ : ∃ m, k = m + 1 + 1 + 1 + 1 + 1 := ⟨k - 5, by omega⟩
    have hend : magnetoref05_Five.l0 (k + 1) (p ++ [a, b, c, d, e]) ((p.length : Int) + 5) ((p.length : Int) + (4 + 1 : Nat)) = some true := by
      simp only [magnetoref05_Five.l0]
      rw [if_neg (by omega)]
    rw [show (p.length : Int) + 5 - 4 = (p.length : Int) + (1 : Nat) by omega]
    rw [step _ 1 b (by omega) (by omega) (rd_five p _ _ 1 rfl), step _ 2 c (by omega) (by omega) (rd_five p _ _ 2 rfl), step _ 3 d (by omega) (by omega) (rd_five p _ _ 3 rfl), step _ 4 e (by omega) (by omega) (rd_five p _ _ 4 rfl), hend]
    have h := tailRun_five p a b c d e
    by_cases hb : b = a
    · rw [if_pos hb]
      by_cases hc : c = a
      · rw [if_pos hc]
        by_cases hd : d = a
        · rw [if_pos hd]
          by_cases he : e = a
          · rw [if_pos he, decide_eq_true (h.2 ⟨hb.symm, hc.symm, hd.symm, he.symm⟩)]
          · rw [if_neg he, decide_eq_false (fun g => he (h.1 g).2.2.2.symm)]
        · rw [if_neg hd, decide_eq_false (fun g => hd (h.1 g).2.2.1.symm)]
      · rw [if_neg hc, decide_eq_false (fun g => hc (h.1 g).2.1.symm)]
    · rw [if_neg hb, decide_eq_false (fun g => hb (h.1 g).1.symm)]
theorem refAdd_l0 (l : List Int) (hv : isLv l) (hl : l.length ≤ 1000000) (d : Nat) : ∀ (k i : Nat), l.length - i = d → i ≤ l.length → 10 + d < k →
    magnetoref05_Add.l0 k l (stuffed (l.take i)) (i : Int) = some (stuffed l) := by
  induction d with
  | zero =>
    intro k i hd hi hk
    obtain ⟨k, rfl⟩ : ∃ m, k = m + 1 := ⟨k - 1, by omega⟩
    simp only [magnetoref05_Add.l0]
    rw [if_neg (by omega), List.take_of_length_le (by omega)]
  | succ d ih =>
    intro k i hd hi hk
    obtain ⟨k, rfl⟩ : ∃ m, k = m + 1 := ⟨k - 1, by omega⟩
    have hi' : i < l.length := by omega
    have hnext := ih k (i + 1) (by omega) (by omega) (by omega)
    rw [take_snoc_rd l i hi', stuffed_snoc, addS] at hnext
    have ht := stuffed_tail (l.take i)
    have hlen := stuffed_length (l.take i)
    have htl : (l.take i).length = i := by rw [List.length_take]; omega
    have hle : tailRun (stuffed (l.take i) ++ [rd l (i : Int)]) ≤ 5 := by rw [tailRun_snoc]; split <;> omega
    simp only [magnetoref05_Add.l0]
    rw [if_pos (by omega), if_pos (by omega), if_pos (by omega)]
    simp only [Option.bind_some]
    rw [five_eq _ (by rw [List.length_append, List.length_singleton]; omega) (by omega), wrap_in (x := (i : Int) + 1) (by omega) (by omega), show (i : Int) + 1 = ((i + 1 : Nat) : Int) by omega]
    simp only [Option.bind_some]
    by_cases h5 : tailRun (stuffed (l.take i) ++ [rd l (i : Int)]) = 5
    · rw [if_pos h5] at hnext
      rw [if_pos (decide_eq_true (by omega)), if_pos (by rw [List.length_append, List.length_singleton]; omega)]
      have hx := rd_lv hv i hi'
      rw [wrap_in (by omega) (by omega)]
      exact hnext
    · rw [if_neg h5] at hnext
      rw [if_neg (by simp; omega)]
      exact hnext
theorem refAdd_eq (l : List Int) (hl : l.length ≤ 1000000) {k : Nat} (hk : l.length + 11 < k) : magnetoref05_Add.f k l = some (if isLv l then stuffed l else []) := by
  unfold magnetoref05_Add.f
  simp only [Option.bind_some]
  rw [refCheck_eq l (by omega) (by omega)]
  simp only [Option.bind_some]
  by_cases h : isLv l
  · rw [chk_of_lv h, if_neg (by omega), if_pos h]
    exact refAdd_l0 l h hl l.length k 0 (by omega) (by omega) (by omega)
  · rw [if_pos (chk_ge h).1, if_neg h]
end Go.Proofs.Ytakemodmdhglnaa.Pure
