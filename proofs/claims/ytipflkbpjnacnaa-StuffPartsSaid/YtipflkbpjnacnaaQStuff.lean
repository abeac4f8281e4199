/- What the functions of layer 5 answer, and the document's own, in plain lists. -/
import Derived.Test.YtipflkbpjnacnaaPAx13
import Derived.Test.YtipflkbpjnacnaaPAx16
import Derived.Test.YtipflkbpjnacnaaPAx26
import Derived.Test.YtipflkbpjnacnaaPAx14
import Derived.Test.YtipflkbpjnacnaaPAx15
import Derived.Test.YtipflkbpjnacnaaQStuffCore
import Derived.Test.YtipflkbpjnacnaaQRuns
import Derived.Test.YtipflkbpjnacnaaQRef01
namespace Go.Proofs.Ytipflkbpjnacnaa.Pure
open Go.RowKit Go.Proofs.Ytipflkbpjnacnaa.PA Go.Proofs.YtipflkbpjnacnaaW.PrintWords Go.Proofs.YtipflkbpjnacnaaW.PrintLast Go.Proofs.YtipflkbpjnacnaaW.PrintMore

theorem rd_last (l : List Int) (h : 0 < l.length) : l.getLast? = some (rd l ((l.length : Int) - 1)) := by
  rcases snoc_cases l with rfl | ⟨t, y, rfl⟩
  · simp at h
  · rw [last_snoc]
    unfold rd
    rw [show (((t ++ [y]).length : Int) - 1).toNat = t.length by rw [List.length_append, List.length_singleton]; omega]
    simp
theorem tellRun_eq (o : List Int) (x : Int) : tellRun o (tailRun o : Nat) x = ((tailRun (o ++ [x]) : Nat) : Int) := by
  unfold tellRun
  rw [tailRun_snoc]
  rcases snoc_cases o with rfl | ⟨t, y, rfl⟩
  · simp
  · rw [rd_last (t ++ [y]) (by simp)]
    simp only [List.length_append, List.length_singleton, Nat.zero_lt_succ, true_and, Option.some.injEq]
    split <;> omega
theorem addStep_eq (o : List Int) (x : Int) : addStep (o, ((tailRun o : Nat) : Int)) x = (addS o x, ((tailRun (addS o x) : Nat) : Int)) := by
  unfold addStep addS
  simp only
  rw [tellRun_eq]
  by_cases h : tailRun (o ++ [x]) = 5
  · rw [if_pos (by omega), if_pos h]
    have := tellRun_eq (o ++ [x]) (1 - x)
    rw [h] at this
    rw [show ((5 : Nat) : Int) = 5 from rfl] at this
    rw [this]
  · rw [if_neg (by omega), if_neg h]
theorem addAll_eq (l : List Int) : addAll l = stuffed l := by
  unfold addAll
  suffices h : l.foldl addStep ([], 0) = (stuffed l, ((tailRun (stuffed l) : Nat) : Int)) by rw [h]
  induction l using snoc_ind with
  | h0 => rfl
  | h1 l x ih => rw [List.foldl_append, ih, stuffed_snoc]; exact addStep_eq _ _
theorem add_lv {l : List Int} (h : isLv l) (hl : l.length ≤ 1000000) : stuff_Add.f l = some (stuffed l) := by
  unfold stuff_Add.f
  rw [chk_of_lv h, if_neg (by omega), if_pos hl, addAll_eq]
theorem add_no {l : List Int} (h : ¬ isLv l) : stuff_Add.f l = some [] := by
  unfold stuff_Add.f
  rw [if_pos (chk_ge h).1]
theorem count_lv {l : List Int} (h : isLv l) (hl : l.length ≤ 1000000) : stuff_Count.f l = some (((stuffed l).length : Int) - l.length) := by
  unfold stuff_Count.f
  have := stuffed_length l
  rw [add_lv h hl]
  simp only [Option.bind_some]
  rw [wrap_in (by omega) (by omega), mx_eq]
  congr 1
  omega
theorem count_no {l : List Int} (h : ¬ isLv l) (hl : l.length ≤ 1000000000) : stuff_Count.f l = some 0 := by
  unfold stuff_Count.f
  rw [add_no h]
  simp only [Option.bind_some, List.length_nil]
  rw [wrap_in (by omega) (by omega), mx_eq]
  congr 1
  omega
theorem most_yes (n : Int) (h0 : 0 ≤ n) (h : n ≤ 9223372036854775807) : stuff_Most.f n = some (if n ≤ 0 then 0 else (n - 1) / 4, 0) := by
  unfold stuff_Most.f
  rw [if_neg (by omega), if_pos h]
  rfl
theorem most_no (n : Int) (h : n < 0) : stuff_Most.f n = some (0, 10) := by
  unfold stuff_Most.f
  rw [if_pos h]

/-- The last five, by themselves. -/
theorem last_five (l : List Int) (h : 5 ≤ l.length) : ∃ p a b c d e, l = p ++ [a, b, c, d, e] := by
  refine ⟨l.take (l.length - 5), ?_⟩
  have h1 : (l.drop (l.length - 5)).length = 5 := by rw [List.length_drop]; omega
  have h2 := List.take_append_drop (l.length - 5) l
  match hd : l.drop (l.length - 5), h1 with
  | [a, b, c, d, e], _ =>
    rw [hd] at h2
    exact ⟨a, b, c, d, e, h2.symm⟩
theorem tailRun_five (p : List Int) (a b c d e : Int) : 5 ≤ tailRun (p ++ [a, b, c, d, e]) ↔ (a = b ∧ a = c ∧ a = d ∧ a = e) := by
  have e1 : p ++ [a, b, c, d, e] = p ++ [a] ++ [b] ++ [c] ++ [d] ++ [e] := by simp
  have hp := tailRun_pos p a
  rw [e1, tailRun_snoc _ e, tailRun_snoc _ d, tailRun_snoc _ c, tailRun_snoc _ b, last_snoc, last_snoc, last_snoc, last_snoc]
  simp only [Option.some.injEq]
  generalize tailRun (p ++ [a]) = t at hp
  by_cases h1 : a = b <;> by_cases h2 : b = c <;> by_cases h3 : c = d <;> by_cases h4 : d = e
  all_goals
    first | rw [if_pos h4] | rw [if_neg h4]
    try (first | rw [if_pos h3] | rw [if_neg h3])
    try (first | rw [if_pos h2] | rw [if_neg h2])
    try (first | rw [if_pos h1] | rw [if_neg h1])
    omega
theorem rd_five (p q : List Int) (i : Int) (j : Nat) (hi : i = p.length + j) : rd (p ++ q) i = q.getD j 0 := by
  unfold rd
  rw [show i.toNat = p.length + j by omega, List.getD_eq_getElem?_getD, List.getElem?_append_right (by omega), Nat.add_sub_cancel_left, List.getD_eq_getElem?_getD]
theorem five_eq (l : List Int) (hl : l.length ≤ 1000000000) {k : Nat} (hk : 6 < k) : magnetoref05_Five.f k l = some (decide (5 ≤ tailRun l)) := by
  unfold magnetoref05_Five.f
  by_cases h5 : (l.length : Int) < 5
  · have := tailRun_le l
    rw [if_pos h5, decide_eq_false (by omega)]
  · rw [if_neg h5]
    obtain ⟨p, a, b, c, d, e, rfl⟩ := last_five l (by omega)
    have hlen : ((p ++ [a, b, c, d, e]).length : Int) = p.length + 5 := by rw [List.length_append]; simp
    have hm : p.length ≤ 1000000000 := by omega
    rw [hlen, wrap_in (by omega) (by omega)]
    have r0 : rd (p ++ [a, b, c, d, e]) (wrap64 (((p.length : Int) + 5) - 5)) = a := by rw [wrap_in (by omega) (by omega)]; exact rd_five p _ _ 0 (by omega)
    have step : ∀ (k i : Nat) (x : Int), 1 ≤ i → i ≤ 4 → rd (p ++ [a, b, c, d, e]) ((p.length : Int) + i) = x →
        magnetoref05_Five.l0 (k + 1) (p ++ [a, b, c, d, e]) ((p.length : Int) + 5) ((p.length : Int) + i) = if x = a then magnetoref05_Five.l0 k (p ++ [a, b, c, d, e]) ((p.length : Int) + 5) ((p.length : Int) + (i + 1 : Nat)) else some false := by
      intro k i x h1 h4 hx
      simp only [magnetoref05_Five.l0]
      rw [hlen, if_pos (by omega), if_pos (by omega), if_pos (by omega), r0, hx, wrap_in (x := ((p.length : Int) + 5) - 5) (by omega) (by omega), if_pos (by omega), if_pos (by omega), wrap_in (by omega) (by omega), show (p.length : Int) + i + 1 = (p.length : Int) + (i + 1 : Nat) by omega]
    obtain ⟨k, rfl⟩ : ∃ m, k = m + 1 + 1 + 1 + 1 + 1 := ⟨k - 5, by omega⟩
    have hend : magnetoref05_Five.l0 (k + 1) (p ++ [a, b, c, d, e]) ((p.length : Int) + 5) ((p.length : Int) + (4 + 1 : Nat)) = some true := by
      simp only [magnetoref05_Five.l0]
      rw [if_neg (by omega)]
    rw [show (p.length : Int) + 5 - 4 = (p.length : Int) + (1 : Nat) by omega]
    rw [step _ 1 b (by omega) (by omega) (rd_five p _ _ 1 rfl), step _ 2 c (by omega) (by omega) (rd_five p _ _ 2 rfl), step _ 3 d (by omega) (by omega) (rd_five p _ _ 3 rfl), step _ 4 e (by omega) (by omega) (rd_five p _ _ 4 rfl), hend]
    have h := tailRun_five p a b c d e
    by_cases hb : b = a
    · rw [if_pos hb]
      by_cases hc : c = a
      · rw [if_pos hc]
        by_cases hd : d = a
        · rw [if_pos hd]
          by_cases he : e = a
          · rw [if_pos he, decide_eq_true (h.2 ⟨hb.symm, hc.symm, hd.symm, he.symm⟩)]
          · rw [if_neg he, decide_eq_false (fun g => he (h.1 g).2.2.2.symm)]
        · rw [if_neg hd, decide_eq_false (fun g => hd (h.1 g).2.2.1.symm)]
      · rw [if_neg hc, decide_eq_false (fun g => hc (h.1 g).2.1.symm)]
    · rw [if_neg hb, decide_eq_false (fun g => hb (h.1 g).1.symm)]
theorem refAdd_l0 (l : List Int) (hv : isLv l) (hl : l.length ≤ 1000000) (d : Nat) : ∀ (k i : Nat), l.length - i = d → i ≤ l.length → 10 + d < k →
    magnetoref05_Add.l0 k l (stuffed (l.take i)) (i : Int) = some (stuffed l) := by
  induction d with
  | zero =>
    intro k i hd hi hk
    obtain ⟨k, rfl⟩ : ∃ m, k = m + 1 := ⟨k - 1, by omega⟩
    simp only [magnetoref05_Add.l0]
    rw [if_neg (by omega), List.take_of_length_le (by omega)]
  | succ d ih =>
    intro k i hd hi hk
    obtain ⟨k, rfl⟩ : ∃ m, k = m + 1 := ⟨k - 1, by omega⟩
    have hi' : i < l.length := by omega
    have hnext := ih k (i + 1) (by omega) (by omega) (by omega)
    rw [take_snoc_rd l i hi', stuffed_snoc, addS] at hnext
    have ht := stuffed_tail (l.take i)
    have hlen := stuffed_length (l.take i)
    have htl : (l.take i).length = i := by rw [List.length_take]; omega
    have hle : tailRun (stuffed (l.take i) ++ [rd l (i : Int)]) ≤ 5 := by rw [tailRun_snoc]; split <;> omega
    simp only [magnetoref05_Add.l0]
    rw [if_pos (by omega), if_pos (by omega), if_pos (by omega)]
    simp only [Option.bind_some]
    rw [five_eq _ (by rw [List.length_append, List.length_singleton]; omega) (by omega), wrap_in (x := (i : Int) + 1) (by omega) (by omega), show (i : Int) + 1 = ((i + 1 : Nat) : Int) by omega]
    simp only [Option.bind_some]
    by_cases h5 : tailRun (stuffed (l.take i) ++ [rd l (i : Int)]) = 5
    · rw [if_pos h5] at hnext
      rw [if_pos (decide_eq_true (by omega)), if_pos (by rw [List.length_append, List.length_singleton]; omega)]
      have hx := rd_lv hv i hi'
      rw [wrap_in (by omega) (by omega)]
      exact hnext
    · rw [if_neg h5] at hnext
      rw [if_neg (by simp; omega)]
      exact hnext
theorem refAdd_eq (l : List Int) (hl : l.length ≤ 1000000) {k : Nat} (hk : l.length + 11 < k) : magnetoref05_Add.f k l = some (if isLv l then stuffed l else []) := by
  unfold magnetoref05_Add.f
  simp only [Option.bind_some]
  rw [refCheck_eq l (by omega) (by omega)]
  simp only [Option.bind_some]
  by_cases h : isLv l
  · rw [chk_of_lv h, if_neg (by omega), if_pos h]
    exact refAdd_l0 l h hl l.length k 0 (by omega) (by omega) (by omega)
  · rw [if_pos (chk_ge h).1, if_neg h]

/-- What taking answers for any row. -/
def takeAll (l : List Int) : List Int × Int × Int := if isLv l then takeR l else ([], chk l 0, 10)
theorem takeS_err (l : List Int) (e : Int × Int) : l.foldl takeS (.error e) = .error e := by
  induction l with
  | nil => rfl
  | cons x t ih => exact ih
theorem takeSt_split (l : List Int) (i : Nat) (e : Int × Int) (h : takeSt (l.take i) = .error e) : takeSt l = .error e := by
  have := List.take_append_drop i l
  unfold takeSt at h ⊢
  rw [← this, List.foldl_append, h, takeS_err]
theorem takeR_of_err {l : List Int} {a e : Int} (h : takeSt l = .error (a, e)) : takeR l = ([], a, e) := by unfold takeR; rw [h]
theorem refTake_l0 (l : List Int) (hl : l.length ≤ 1000000) (d : Nat) : ∀ (k i : Nat) (o : List Int), l.length - i = d → i ≤ l.length → 10 + d < k → takeSt (l.take i) = .ok (l.take i, o) →
    magnetoref05_Take.l0 k l o (i : Int) = some (takeR l) := by
  induction d with
  | zero =>
    intro k i o hd hi hk ho
    obtain ⟨k, rfl⟩ : ∃ m, k = m + 1 := ⟨k - 1, by omega⟩
    rw [List.take_of_length_le (by omega)] at ho
    simp only [magnetoref05_Take.l0]
    rw [if_neg (by omega), five_eq l (by omega) (by omega)]
    simp only [Option.bind_some]
    unfold takeR
    rw [ho]
    simp only [decide_eq_true_eq]
    split <;> rfl
  | succ d ih =>
    intro k i o hd hi hk ho
    obtain ⟨k, rfl⟩ : ∃ m, k = m + 1 := ⟨k - 1, by omega⟩
    have hi' : i < l.length := by omega
    have htl : (l.take i).length = i := by rw [List.length_take]; omega
    obtain ⟨_, hol, _⟩ := takeSt_ok _ _ _ ho
    have hs : takeSt (l.take (i + 1)) = takeS (.ok (l.take i, o)) (rd l (i : Int)) := by rw [take_snoc_rd l i hi', takeSt_snoc, ho]
    simp only [magnetoref05_Take.l0]
    rw [if_pos (by omega), if_pos (by omega), if_pos (by omega), Int.toNat_natCast, five_eq _ (by omega) (by omega)]
    simp only [Option.bind_some, decide_eq_true_eq]
    unfold takeS at hs
    simp only at hs
    rw [wrap_in (x := (i : Int) + 1) (by omega) (by omega), show (i : Int) + 1 = ((i + 1 : Nat) : Int) by omega]
    by_cases h5 : 5 ≤ tailRun (l.take i)
    · rw [if_pos h5] at hs ⊢
      have hle := tailRun_le (l.take i)
      have hlast := rd_last (l.take i) (by omega)
      have hrd : rd (l.take i) (((l.take i).length : Int) - 1) = rd l ((i : Int) - 1) := by
        unfold rd
        rw [htl, List.getD_eq_getElem?_getD, List.getElem?_take, if_pos (by omega), List.getD_eq_getElem?_getD]
      rw [hrd] at hlast
      rw [wrap_in (x := (i : Int) - 1) (by omega) (by omega), if_pos (by omega), if_pos (by omega)]
      by_cases hx : rd l (i : Int) = rd l ((i : Int) - 1)
      · rw [if_pos (by rw [hlast, hx])] at hs
        rw [if_pos hx, takeR_of_err (takeSt_split l (i + 1) _ hs), htl]
      · rw [if_neg (by rw [hlast]; simp; exact fun e => hx e.symm)] at hs
        rw [if_neg hx]
        refine ih k (i + 1) o (by omega) (by omega) (by omega) ?_
        rw [hs, take_snoc_rd l i hi']
    · rw [if_neg h5] at hs ⊢
      rw [if_pos (by omega)]
      refine ih k (i + 1) _ (by omega) (by omega) (by omega) ?_
      rw [hs, take_snoc_rd l i hi']
theorem refTake_eq (l : List Int) (hl : l.length ≤ 1000000) {k : Nat} (hk : l.length + 11 < k) : magnetoref05_Take.f k l = some (takeAll l) := by
  unfold magnetoref05_Take.f takeAll
  rw [refCheck_eq l (by omega) (by omega)]
  simp only [Option.bind_some]
  by_cases h : isLv l
  · rw [chk_of_lv h, if_neg (by omega), if_pos h]
    exact refTake_l0 l hl l.length k 0 [] (by omega) (by omega) (by omega) rfl
  · rw [if_pos (chk_ge h).1, if_neg h]
theorem take_l0 (l : List Int) (hl : l.length ≤ 1000000) (d : Nat) : ∀ (k i : Nat) (o : List Int), l.length - i = d → i ≤ l.length → d < k → takeSt (l.take i) = .ok (l.take i, o) →
    stuff_Take.l0 k l o ((tailRun (l.take i) : Nat) : Int) 0 0 l (l.length : Int) (i : Int) = some (takeR l) := by
  induction d with
  | zero =>
    intro k i o hd hi hk ho
    obtain ⟨k, rfl⟩ : ∃ m, k = m + 1 := ⟨k - 1, by omega⟩
    rw [List.take_of_length_le (by omega)] at ho ⊢
    obtain ⟨_, _, h5, _⟩ := takeSt_ok _ _ _ ho
    simp only [stuff_Take.l0]
    rw [if_neg (by omega), if_pos trivial]
    unfold takeR
    rw [ho]
    simp only
    by_cases h : tailRun l = 5
    · rw [if_pos (by omega), if_pos (by omega)]
    · rw [if_neg (by omega), if_neg (by omega)]
  | succ d ih =>
    intro k i o hd hi hk ho
    obtain ⟨k, rfl⟩ : ∃ m, k = m + 1 := ⟨k - 1, by omega⟩
    have hi' : i < l.length := by omega
    have htl : (l.take i).length = i := by rw [List.length_take]; omega
    obtain ⟨_, hol, h5', _⟩ := takeSt_ok _ _ _ ho
    have hs : takeSt (l.take (i + 1)) = takeS (.ok (l.take i, o)) (rd l (i : Int)) := by rw [take_snoc_rd l i hi', takeSt_snoc, ho]
    have hr : tailRun (l.take (i + 1)) = if (l.take i).getLast? = some (rd l (i : Int)) then tailRun (l.take i) + 1 else 1 := by rw [take_snoc_rd l i hi', tailRun_snoc]
    have hnext := fun o' => ih k (i + 1) o' (by omega) (by omega) (by omega)
    rw [hr] at hnext
    simp only [stuff_Take.l0]
    unfold takeS at hs
    simp only at hs
    rw [wrap_in (x := (i : Int) + 1) (by omega) (by omega), show (i : Int) + 1 = ((i + 1 : Nat) : Int) by omega, if_pos (by omega), if_pos (by omega), if_pos (by omega)]
    by_cases h0 : i = 0
    · subst h0
      have hr0 : tailRun (l.take 0) = 0 := by simp [tailRun_nil]
      have hl0 : ¬ ((l.take 0).getLast? = some (rd l ((0 : Nat) : Int))) := by simp
      rw [if_neg hl0] at hnext
      rw [hr0, if_neg (by omega), if_neg (by omega), if_pos (by omega)]
      rw [hr0, if_neg (by omega)] at hs
      exact hnext _ (by rw [hs, take_snoc_rd l 0 hi'])
    · have hlast := rd_last (l.take i) (by omega)
      have hrd : rd (l.take i) (((l.take i).length : Int) - 1) = rd l ((i : Int) - 1) := by
        unfold rd
        rw [htl, List.getD_eq_getElem?_getD, List.getElem?_take, if_pos (by omega), List.getD_eq_getElem?_getD]
      rw [hrd] at hlast
      rw [hlast] at hnext hs
      rw [wrap_in (x := (i : Int) - 1) (by omega) (by omega)]
      by_cases h5 : tailRun (l.take i) = 5
      · rw [if_pos (by omega), if_pos (by omega), if_pos (by omega)]
        rw [if_pos (by omega)] at hs
        by_cases hx : rd l (i : Int) = rd l ((i : Int) - 1)
        · rw [if_pos (by rw [hx])] at hs
          rw [if_pos hx, takeR_of_err (takeSt_split l (i + 1) _ hs), htl]
        · have hx' : ¬ (some (rd l ((i : Int) - 1)) = some (rd l (i : Int))) := by simp; exact fun e => hx e.symm
          rw [if_neg hx'] at hs hnext
          rw [if_neg hx, if_pos (by omega)]
          exact hnext o (by rw [hs, take_snoc_rd l i hi'])
      · rw [if_neg (by omega)] at hs
        rw [if_neg (by omega), if_pos (by omega), if_pos (by omega), if_pos (by omega)]
        by_cases hx : rd l (i : Int) = rd l ((i : Int) - 1)
        · rw [if_pos (by rw [hx])] at hnext
          rw [if_pos hx, if_pos (by omega), wrap_in (by omega) (by omega)]
          exact hnext _ (by rw [hs, take_snoc_rd l i hi'])
        · have hx' : ¬ (some (rd l ((i : Int) - 1)) = some (rd l (i : Int))) := by simp; exact fun e => hx e.symm
          rw [if_neg hx'] at hnext
          rw [if_neg hx, if_pos (by omega)]
          exact hnext _ (by rw [hs, take_snoc_rd l i hi'])
theorem take_eq (l : List Int) (hl : l.length ≤ 1000000) {k : Nat} (hk : l.length < k) : stuff_Take.f k l = some (takeAll l) := by
  unfold stuff_Take.f takeAll
  rw [check_eq]
  simp only [Option.bind_some]
  by_cases h : isLv l
  · rw [chk_of_lv h, if_neg (by omega), if_pos h, if_pos (by omega), if_pos (by omega)]
    exact take_l0 l hl l.length k 0 [] (by omega) (by omega) hk rfl
  · rw [if_pos (chk_ge h).1, if_neg h]

/-- The next one, behind a row. -/
def nextF (l : List Int) : Bool × Int := if isLv l ∧ 5 ≤ tailRun l then (true, 1 - rd l ((l.length : Int) - 1)) else (false, 0)
theorem nextF_yes {l : List Int} (h : isLv l ∧ 5 ≤ tailRun l) : nextF l = (true, 1 - rd l ((l.length : Int) - 1)) := by unfold nextF; rw [if_pos h]
theorem nextF_no {l : List Int} (h : ¬ (isLv l ∧ 5 ≤ tailRun l)) : nextF l = (false, 0) := by unfold nextF; rw [if_neg h]
theorem longest_five (a b c d e : Int) (ha : a = 0 ∨ a = 1) (hb : b = 0 ∨ b = 1) (hc : c = 0 ∨ c = 1) (hd : d = 0 ∨ d = 1) (he : e = 0 ∨ e = 1) : ¬ (longest [a, b, c, d, e] < 5) ↔ (a = b ∧ a = c ∧ a = d ∧ a = e) := by
  rcases ha with rfl | rfl <;> rcases hb with rfl | rfl <;> rcases hc with rfl | rfl <;> rcases hd with rfl | rfl <;> rcases he with rfl | rfl <;> decide
theorem next_eq (l : List Int) (hl : l.length ≤ 1000000) {k : Nat} (hk : 10 < k) : stuff_Next.f k l = some (nextF l) := by
  unfold stuff_Next.f nextF
  rw [wrap_in (x := (l.length : Int) - 5) (by omega) (by omega)]
  by_cases h5 : (l.length : Int) - 5 < 0
  · have := tailRun_le l
    rw [if_pos h5, if_neg (by omega)]
  · rw [if_neg h5, check_eq]
    simp only [Option.bind_some]
    by_cases h : isLv l
    · rw [chk_of_lv h, if_neg (by omega), if_pos (by omega), if_pos (by omega)]
      obtain ⟨p, a, b, c, d, e, rfl⟩ := last_five l (by omega)
      have hlen : ((p ++ [a, b, c, d, e]).length : Int) = p.length + 5 := by rw [List.length_append]; simp
      have hpl : p.length ≤ 1000000 := by omega
      have hdrop : (p ++ [a, b, c, d, e]).drop (((p ++ [a, b, c, d, e]).length : Int) - 5).toNat = [a, b, c, d, e] := by
        rw [hlen, show ((p.length : Int) + 5 - 5).toNat = p.length by omega, List.drop_left]
      rw [hdrop, longest_eq _ (by simp) (by simp; omega)]
      simp only [Option.bind_some]
      have hlv := (isLv_append.1 h).2
      have hh : ∀ x ∈ [a, b, c, d, e], x = 0 ∨ x = 1 := hlv
      have hlf := longest_five a b c d e (hh a (by simp)) (hh b (by simp)) (hh c (by simp)) (hh d (by simp)) (hh e (by simp))
      have htf := tailRun_five p a b c d e
      by_cases hall : a = b ∧ a = c ∧ a = d ∧ a = e
      · rw [if_neg (hlf.2 hall), if_pos (by omega), if_pos ⟨h, htf.2 hall⟩, hlen]
        have r0 : rd (p ++ [a, b, c, d, e]) ((p.length : Int) + 5 - 5) = a := rd_five p _ _ 0 (by omega)
        have r4 : rd (p ++ [a, b, c, d, e]) ((p.length : Int) + 5 - 1) = e := rd_five p _ _ 4 (by omega)
        have ha := hh a (by simp)
        rw [r0, r4]
        unfold stuff_other.f
        simp only [Option.bind_some]
        rw [wrap_in (by omega) (by omega), hall.2.2.2]
      · rw [if_pos (by by_cases hx : longest [a, b, c, d, e] < 5; exact hx; exact absurd (hlf.1 hx) hall), if_neg (fun g => hall (htf.1 g.2))]
    · rw [if_pos (chk_ge h).1, if_neg (fun g => h g.1)]
/-- No run of a stuffed row is longer than five. -/
theorem runs_snoc_mem (l : List Int) (x : Int) : (∀ n ∈ runs (l ++ [x]), n ∈ runs l ∨ n = ((tailRun (l ++ [x]) : Nat) : Int)) ∧ (runs (l ++ [x])).getLast? = some ((tailRun (l ++ [x]) : Nat) : Int) := by
  induction l using snoc_ind generalizing x with
  | h0 => simp [runs, runsFrom, runStep, tailRun, endOf, endStep]
  | h1 l y ih =>
    obtain ⟨ih1, ih2⟩ := ih y
    rw [runs_snoc, tailRun_snoc, last_snoc]
    unfold runStep
    rw [last_snoc]
    simp only [Option.some.injEq]
    by_cases hxy : x = y
    · subst hxy
      rw [if_pos rfl, if_pos rfl]
      rcases snoc_cases (runs (l ++ [x])) with h | ⟨t, z, h⟩
      · rw [h] at ih2; simp at ih2
      · rw [h] at ih2 ⊢
        rw [last_snoc] at ih2
        injection ih2 with ih2
        have e : (t ++ [z]).set ((t ++ [z]).length - 1) ((t ++ [z]).getD ((t ++ [z]).length - 1) 0 + 1) = t ++ [z + 1] := by simp
        rw [e, ih2]
        constructor
        · intro n hn
          rcases List.mem_append.1 hn with hn | hn
          · exact .inl (List.mem_append_left _ hn)
          · simp at hn; exact .inr (by omega)
        · rw [last_snoc]; congr 1
    · rw [if_neg hxy, if_neg (fun e => hxy e.symm)]
      constructor
      · intro n hn
        rcases List.mem_append.1 hn with hn | hn
        · exact .inl hn
        · simp at hn; exact .inr (by omega)
      · rw [last_snoc]; rfl
theorem stuffed_runs (l : List Int) : ∀ n ∈ runs (stuffed l), n ≤ 5 := by
  induction l using snoc_ind with
  | h0 => simp [stuffed_nil, runs_nil]
  | h1 l x ih =>
    have ht := stuffed_tail l
    have hle : tailRun (stuffed l ++ [x]) ≤ 5 := by rw [tailRun_snoc]; split <;> omega
    have h1 : ∀ n ∈ runs (stuffed l ++ [x]), n ≤ 5 := by
      intro n hn
      rcases (runs_snoc_mem _ _).1 n hn with h | h
      · exact ih n h
      · omega
    rw [stuffed_snoc, addS]
    split
    · intro n hn
      rcases (runs_snoc_mem _ _).1 n hn with h | h
      · exact h1 n h
      · rw [addS_other] at h; omega
    · exact h1
theorem stuffed_longest (l : List Int) : longest (stuffed l) ≤ 5 := by
  unfold longest
  rcases maxFrom_is (runs (stuffed l)) 0 with h | h
  · omega
  · exact stuffed_runs l _ h
end Go.Proofs.Ytipflkbpjnacnaa.Pure
