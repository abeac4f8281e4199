/- Runs: what the function of layer 1 answers, and the document's own, as one plain function. -/
import Derived.Test.YtipflkbpjnacnaaPAx8
import Derived.Test.YtipflkbpjnacnaaPAx23
import Derived.Test.YtipflkbpjnacnaaQBits
namespace Go.Proofs.Ytipflkbpjnacnaa.Pure
open Go.RowKit Go.Proofs.Ytipflkbpjnacnaa.PA Go.Proofs.YtipflkbpjnacnaaW.PrintWords Go.Proofs.YtipflkbpjnacnaaW.PrintLast Go.Proofs.YtipflkbpjnacnaaW.PrintMore

/-- One number more: the last run grows, or a new one begins. o: the runs; l: the numbers. -/
def runStep (l o : List Int) (x : Int) : List Int :=
  match l.getLast? with
  | none => o ++ [1]
  | some y => if x = y then o.set (o.length - 1) (o.getD (o.length - 1) 0 + 1) else o ++ [1]
/-- The runs of a row, from the first number on. -/
def runsFrom : List Int → List Int → List Int → List Int
  | _, o, [] => o
  | l, o, x :: t => runsFrom (l ++ [x]) (runStep l o x) t
def runs (l : List Int) : List Int := runsFrom [] [] l
theorem runsFrom_append (a b : List Int) : ∀ l o, runsFrom l o (a ++ b) = runsFrom (l ++ a) (runsFrom l o a) b := by
  induction a with
  | nil => intro l o; simp [runsFrom]
  | cons x t ih =>
    intro l o
    simp only [List.cons_append, runsFrom]
    rw [ih]
    simp
theorem runs_snoc (l : List Int) (x : Int) : runs (l ++ [x]) = runStep l (runs l) x := by
  unfold runs
  rw [runsFrom_append]
  simp [runsFrom]
theorem runs_nil : runs [] = [] := rfl
theorem runStep_length (l o : List Int) (x : Int) : (runStep l o x).length ≤ o.length + 1 := by
  unfold runStep
  split
  · simp
  · split <;> simp
theorem runs_length (l : List Int) : (runs l).length ≤ l.length := by
  induction l using snoc_ind with
  | h0 => simp [runs_nil]
  | h1 l x ih =>
    rw [runs_snoc]
    have := runStep_length l (runs l) x
    rw [List.length_append, List.length_singleton]
    omega
theorem runs_pos {l : List Int} (h : l ≠ []) : 0 < (runs l).length := by
  induction l using snoc_ind with
  | h0 => exact absurd rfl h
  | h1 l x ih =>
    rw [runs_snoc]
    unfold runStep
    rcases snoc_cases l with rfl | ⟨t, y, rfl⟩
    · simp
    · have := ih (by simp)
      simp only [List.getLast?_append, List.getLast?_singleton, Option.some_or]
      split
      · rw [List.length_set]; exact this
      · simp
/-- No run is longer than the row, nor shorter than one. -/
theorem runs_le (l : List Int) : ∀ n ∈ runs l, 1 ≤ n ∧ n ≤ l.length := by
  induction l using snoc_ind with
  | h0 => simp [runs_nil]
  | h1 l x ih =>
    intro n hn
    rw [runs_snoc] at hn
    rw [List.length_append, List.length_singleton]
    unfold runStep at hn
    rcases snoc_cases l with rfl | ⟨t, y, rfl⟩
    · simp [runs_nil] at hn
      subst hn
      simp
    · have hp := runs_pos (l := t ++ [y]) (by simp)
      simp only [List.getLast?_append, List.getLast?_singleton, Option.some_or] at hn
      split at hn
      · rcases List.mem_or_eq_of_mem_set hn with h | h
        · have := ih n h; omega
        · have hm : (runs (t ++ [y])).getD ((runs (t ++ [y])).length - 1) 0 ∈ runs (t ++ [y]) := by
            rw [List.getD_eq_getElem?_getD, List.getElem?_eq_getElem (by omega)]
            simp
          have := ih _ hm
          omega
      · rcases List.mem_append.1 hn with h | h
        · have := ih n h; omega
        · simp at h; omega
theorem take_snoc_rd (l : List Int) (i : Nat) (hi : i < l.length) : l.take (i + 1) = l.take i ++ [rd l (i : Int)] := by
  rw [List.take_succ_eq_append_getElem hi, rd_at l i hi]
theorem runs_l0 (l : List Int) (hl : l.length ≤ 1000000000) (d : Nat) : ∀ (k i : Nat), l.length - i = d → i ≤ l.length → d < k →
    bits_Runs.l0 k l (runs (l.take i)) (l.length : Int) (i : Int) = some (runs l) := by
  induction d with
  | zero =>
    intro k i hd hi hk
    obtain ⟨k, rfl⟩ : ∃ m, k = m + 1 := ⟨k - 1, by omega⟩
    simp only [bits_Runs.l0]
    rw [if_neg (by omega), List.take_of_length_le (by omega)]
  | succ d ih =>
    intro k i hd hi hk
    obtain ⟨k, rfl⟩ : ∃ m, k = m + 1 := ⟨k - 1, by omega⟩
    have hi' : i < l.length := by omega
    have ht : (l.take i).length = i := by rw [List.length_take]; omega
    have hrl := runs_length (l.take i)
    have hs : runs (l.take (i + 1)) = runStep (l.take i) (runs (l.take i)) (rd l (i : Int)) := by rw [take_snoc_rd l i hi', runs_snoc]
    have hnext := ih k (i + 1) (by omega) (by omega) (by omega)
    rw [hs] at hnext
    simp only [bits_Runs.l0]
    rw [if_pos (by omega), wrap_in (x := (i : Int) + 1) (by omega) (by omega), show (i : Int) + 1 = ((i + 1 : Nat) : Int) from by omega]
    by_cases h0 : i = 0
    · subst h0
      rw [if_neg (by omega), if_pos (by omega)]
      have e : runStep (l.take 0) (runs (l.take 0)) (rd l ((0 : Nat) : Int)) = runs (l.take 0) ++ [1] := by simp [runStep]
      rw [e] at hnext
      exact hnext
    · have hlast : (l.take i).getLast? = some (rd l ((i : Int) - 1)) := by
        have e1 : l.take i = l.take (i - 1) ++ [rd l ((i - 1 : Nat) : Int)] := by
          have := take_snoc_rd l (i - 1) (by omega)
          rwa [show i - 1 + 1 = i by omega] at this
        rw [e1, List.getLast?_append, List.getLast?_singleton, show ((i - 1 : Nat) : Int) = (i : Int) - 1 by omega]
        rfl
      have hpos := runs_pos (l := l.take i) (by intro h; rw [h] at ht; simp at ht; omega)
      rw [wrap_in (x := (i : Int) - 1) (by omega) (by omega), if_pos (by omega), if_pos (by omega), if_pos (by omega), if_pos (by omega), if_pos (by omega)]
      unfold runStep at hnext
      rw [hlast] at hnext
      simp only at hnext
      by_cases hx : rd l (i : Int) = rd l ((i : Int) - 1)
      · rw [if_pos hx]
        rw [if_pos hx] at hnext
        have hm : (runs (l.take i)).getD ((runs (l.take i)).length - 1) 0 ∈ runs (l.take i) := by
          rw [List.getD_eq_getElem?_getD, List.getElem?_eq_getElem (by omega)]
          simp
        have hb := runs_le _ _ hm
        rw [wrap_in (x := ((runs (l.take i)).length : Int) - 1) (by omega) (by omega), if_pos (by omega), if_pos (by omega)]
        have er : rd (runs (l.take i)) (((runs (l.take i)).length : Int) - 1) = (runs (l.take i)).getD ((runs (l.take i)).length - 1) 0 := by
          unfold rd
          rw [show (((runs (l.take i)).length : Int) - 1).toNat = (runs (l.take i)).length - 1 by omega]
        rw [er, wrap_in (by omega) (by omega), show (((runs (l.take i)).length : Int) - 1).toNat = (runs (l.take i)).length - 1 by omega]
        exact hnext
      · rw [if_neg hx, if_pos (by omega)]
        rw [if_neg hx] at hnext
        exact hnext
theorem runs_eq (l : List Int) (hl : l.length ≤ 1000000000) {k : Nat} (hk : l.length < k) : bits_Runs.f k l = some (runs l) := by
  unfold bits_Runs.f
  exact runs_l0 l hl l.length k 0 (by omega) (by omega) hk

/-- The greatest of these and a first number. -/
def maxFrom (m : Int) (l : List Int) : Int := l.foldl mx m
theorem max_l0 (l : List Int) (hl : l.length ≤ 1000000000000) (d : Nat) : ∀ (k i : Nat) (m : Int), l.length - i = d → i ≤ l.length → d < k →
    slices_Max_int_int.l0 k l m (i : Int) = some (maxFrom m (l.drop i)) := by
  induction d with
  | zero =>
    intro k i m hd hi hk
    obtain ⟨k, rfl⟩ : ∃ m, k = m + 1 := ⟨k - 1, by omega⟩
    simp only [slices_Max_int_int.l0]
    rw [if_neg (by omega), List.drop_eq_nil_of_le (by omega)]
    rfl
  | succ d ih =>
    intro k i m hd hi hk
    obtain ⟨k, rfl⟩ : ∃ m, k = m + 1 := ⟨k - 1, by omega⟩
    have hi' : i < l.length := by omega
    simp only [slices_Max_int_int.l0]
    rw [if_pos (by omega), if_pos (by omega), wrap_in (x := (i : Int) + 1) (by omega) (by omega), show (i : Int) + 1 = ((i + 1 : Nat) : Int) from by omega, ih k (i + 1) _ (by omega) (by omega) (by omega), List.drop_eq_getElem_cons hi', rd_at l i hi']
    rfl
theorem max_eq (l : List Int) (h : l ≠ []) (hl : l.length ≤ 1000000000000) {k : Nat} (hk : l.length < k) : slices_Max_int_int.f k l = some (maxFrom (rd l 0) (l.drop 1)) := by
  unfold slices_Max_int_int.f
  have hp : 0 < l.length := List.length_pos_iff.2 h
  rw [if_neg (by omega), if_pos (by omega)]
  exact max_l0 l hl (l.length - 1) k 1 _ (by omega) (by omega) (by omega)
theorem mx_eq (a b : Int) : mx a b = max a b := by unfold mx; split <;> omega
theorem maxFrom_cons (a x : Int) (l : List Int) : maxFrom a (x :: l) = maxFrom (mx a x) l := rfl
theorem maxFrom_ge (l : List Int) : ∀ a, a ≤ maxFrom a l := by
  induction l with
  | nil => intro a; exact Int.le_refl a
  | cons x t ih => intro a; rw [maxFrom_cons]; have := ih (mx a x); rw [mx_eq] at this ⊢; omega
theorem maxFrom_mem (l : List Int) : ∀ a, ∀ x ∈ l, x ≤ maxFrom a l := by
  induction l with
  | nil => intro a x h; simp at h
  | cons y t ih =>
    intro a x h
    rw [maxFrom_cons]
    rcases List.mem_cons.1 h with rfl | h
    · have := maxFrom_ge t (mx a x); rw [mx_eq] at this ⊢; omega
    · exact ih _ x h
theorem maxFrom_is (l : List Int) : ∀ a, maxFrom a l = a ∨ maxFrom a l ∈ l := by
  induction l with
  | nil => intro a; exact .inl rfl
  | cons y t ih =>
    intro a
    rw [maxFrom_cons]
    rcases ih (mx a y) with h | h
    · rw [h, mx_eq]
      by_cases hay : a ≤ y
      · exact .inr (by rw [show max a y = y by omega]; exact List.mem_cons_self)
      · exact .inl (by omega)
    · exact .inr (List.mem_cons_of_mem _ h)
/-- The longest run; 0: there is none. -/
def longest (l : List Int) : Int := maxFrom 0 (runs l)
theorem maxFrom_unique (l : List Int) (a m : Int) (h1 : a ≤ m) (h2 : ∀ x ∈ l, x ≤ m) (h3 : m = a ∨ m ∈ l) : maxFrom a l = m := by
  have g1 := maxFrom_ge l a
  rcases maxFrom_is l a with h | h
  · rcases h3 with h3 | h3
    · omega
    · have := maxFrom_mem l a m h3; omega
  · have := h2 _ h
    rcases h3 with h3 | h3
    · omega
    · have := maxFrom_mem l a m h3; omega
theorem longest_eq (l : List Int) (hl : l.length ≤ 1000000000) {k : Nat} (hk : l.length + 1 < k) : bits_Longest.f k l = some (longest l) := by
  unfold bits_Longest.f
  have hrl := runs_length l
  rw [runs_eq l hl (by omega)]
  simp only [Option.bind_some]
  rw [if_pos (by omega), max_eq _ (by simp) (by simp; omega) (by simp; omega)]
  simp only [Option.bind_some]
  congr 1
  unfold longest
  refine (maxFrom_unique _ _ _ (maxFrom_ge _ _) (maxFrom_mem _ _) (maxFrom_is _ _)).symm.trans ?_
  have hall : ∀ x ∈ runs l ++ [0], x ≤ maxFrom 0 (runs l) := by
    intro x hx
    rcases List.mem_append.1 hx with hx | hx
    · exact maxFrom_mem _ _ x hx
    · simp at hx; subst hx; exact maxFrom_ge _ _
  have hsplit : runs l ++ [0] = rd (runs l ++ [0]) 0 :: (runs l ++ [0]).drop 1 := by
    cases h : runs l with
    | nil => simp [rd]
    | cons a t => simp [rd]
  refine maxFrom_unique _ _ _ ?_ ?_ ?_
  · have h : rd (runs l ++ [0]) 0 ∈ rd (runs l ++ [0]) 0 :: (runs l ++ [0]).drop 1 := List.mem_cons_self
    rw [← hsplit] at h
    exact hall _ h
  · intro x hx
    have h : x ∈ rd (runs l ++ [0]) 0 :: (runs l ++ [0]).drop 1 := List.mem_cons_of_mem _ hx
    rw [← hsplit] at h
    exact hall x h
  · have hm : maxFrom 0 (runs l) ∈ runs l ++ [0] := by
      rcases maxFrom_is (runs l) 0 with h | h
      · rw [h]; simp
      · exact List.mem_append_left _ h
    rw [hsplit] at hm
    rcases List.mem_cons.1 hm with h | h
    · exact .inl h
    · exact .inr h
end Go.Proofs.Ytipflkbpjnacnaa.Pure
