/- magnetolaw05.StuffParts answers true for every two rows and number: a longer row is stuffed as the shorter one ahead, a turned row as the row, turned; and there is a row to which the most are added. Conditions: none. -/
import Derived.Test.YtipflkbpjnacnaaRStuffParts
import Derived.Test.YtipflkbpjnacnaaQStuff
import Derived.Test.YtipflkbpjnacnaaQAwake05
import Derived.Test.YtipflkbpjnacnaaQInts05
namespace Go.Proofs.Ytipflkbpjnacnaa.Pure
open Go.RowKit Go.Proofs.Ytipflkbpjnacnaa.PA Go.Proofs.YtipflkbpjnacnaaW.PrintWords Go.Proofs.YtipflkbpjnacnaaW.PrintLast Go.Proofs.YtipflkbpjnacnaaW.PrintMore

theorem other_lv {l : List Int} (h : isLv l) : isLv (l.map (1 - ·)) := by
  intro x hx
  obtain ⟨y, hy, rfl⟩ := List.mem_map.1 hx
  exact lv_other (h y hy)
/-- The row to which the most are added. -/
def worst : Nat → List Int
  | 0 => []
  | i + 1 => worst i ++ [if 5 ≤ i then (((i - 1) / 4 % 2 : Nat) : Int) else 0]
theorem worst_length (n : Nat) : (worst n).length = n := by
  induction n with
  | zero => rfl
  | succ n ih => rw [worst, List.length_append, ih]; rfl
theorem worst_lv (n : Nat) : isLv (worst n) := by
  induction n with
  | zero => exact isLv_nil
  | succ n ih =>
    rw [worst, isLv_snoc]
    refine ⟨ih, ?_⟩
    split <;> omega
theorem worst_stuffed (n : Nat) : tailRun (stuffed (worst (n + 1))) = n % 4 + 1 ∧ (stuffed (worst (n + 1))).getLast? = some ((n / 4 % 2 : Nat) : Int) ∧ (stuffed (worst (n + 1))).length = n + 1 + n / 4 := by
  induction n with
  | zero => decide
  | succ n ih =>
    obtain ⟨h1, h2, h3⟩ := ih
    have hx : (if 5 ≤ n + 1 then (((n + 1 - 1) / 4 % 2 : Nat) : Int) else 0) = ((n / 4 % 2 : Nat) : Int) := by
      rw [Nat.add_sub_cancel]
      split <;> omega
    rw [worst, hx, stuffed_snoc, addS]
    have ht : tailRun (stuffed (worst (n + 1)) ++ [((n / 4 % 2 : Nat) : Int)]) = n % 4 + 2 := by
      rw [tailRun_snoc, h2, if_pos rfl, h1]
    rw [ht]
    by_cases h : n % 4 + 2 = 5
    · rw [if_pos h, addS_other, last_snoc]
      simp only [List.length_append, List.length_singleton, h3]
      refine ⟨by omega, ?_, by omega⟩
      congr 1
      omega
    · rw [if_neg h, ht, last_snoc]
      simp only [List.length_append, List.length_singleton, h3]
      refine ⟨by omega, ?_, by omega⟩
      congr 1
      omega
section
variable (n : Int)
theorem parts_l2 (d : Nat) : ∀ (k i : Nat), n.toNat - i = d → i ≤ n.toNat → 0 ≤ n → n ≤ 200 → 100 + d < k → magnetolaw05_StuffParts.l2 k n (worst i) (i : Int) = some true := by
  induction d with
  | zero =>
    intro k i hd hi h0 h2 hk
    obtain ⟨k, rfl⟩ : ∃ m, k = m + 1 := ⟨k - 1, by omega⟩
    obtain rfl : n = (i : Int) := by omega
    have hwl := worst_length i
    simp only [magnetolaw05_StuffParts.l2]
    rw [if_neg (by omega), most_yes _ (by omega) (by omega)]
    simp only [Option.bind_some]
    rw [if_pos trivial, count_lv (worst_lv i) (by omega)]
    simp only [Option.bind_some]
    have hc : ((stuffed (worst i)).length : Int) - ((worst i).length : Int) = if (i : Int) ≤ 0 then 0 else ((i : Int) - 1) / 4 := by
      rw [hwl]
      cases i with
      | zero => rfl
      | succ j =>
        have := (worst_stuffed j).2.2
        rw [if_neg (by omega)]
        omega
    rw [if_pos hc, awake05 (by omega)]
    rfl
  | succ d ih =>
    intro k i hd hi h0 h2 hk
    obtain ⟨k, rfl⟩ : ∃ m, k = m + 1 := ⟨k - 1, by omega⟩
    have hwl := worst_length i
    have hn := ih k (i + 1) (by omega) (by omega) h0 h2 (by omega)
    rw [worst] at hn
    simp only [magnetolaw05_StuffParts.l2]
    rw [if_pos (by omega), wrap_in (x := (i : Int) + 1) (by omega) (by omega), show (i : Int) + 1 = ((i + 1 : Nat) : Int) by omega]
    by_cases h5 : 5 ≤ i
    · rw [if_pos h5] at hn
      have e : Int.tmod (wrap64 (Int.tdiv (wrap64 ((i : Int) - 1)) 4)) 2 = (((i - 1) / 4 % 2 : Nat) : Int) := by
        rw [wrap_in (x := (i : Int) - 1) (by omega) (by omega), Int.tdiv_eq_ediv_of_nonneg (by omega), wrap_in (by omega) (by omega), Int.tmod_eq_emod_of_nonneg (by omega)]
        omega
      rw [if_pos (by omega), if_pos (by omega), e]
      exact hn
    · rw [if_neg h5] at hn
      rw [if_neg (by omega), if_pos (by omega)]
      exact hn
theorem parts_end (k : Nat) (hk : 400 < k) : (if n < 0 then magnetolaw05_StuffParts.j4 k n true else magnetolaw05_StuffParts.j4 k n (decide (n > 200))) = some true := by
  obtain ⟨k, rfl⟩ : ∃ m, k = m + 1 := ⟨k - 1, by omega⟩
  have hout : magnetolaw05_StuffParts.j4 (k + 1) n true = some true := by
    simp only [magnetolaw05_StuffParts.j4]
    rw [if_pos trivial, awake05 (by omega)]
    rfl
  by_cases h0 : n < 0
  · rw [if_pos h0]
    exact hout
  · rw [if_neg h0]
    by_cases h2 : n > 200
    · rw [decide_eq_true h2]
      exact hout
    · rw [decide_eq_false h2]
      simp only [magnetolaw05_StuffParts.j4]
      rw [if_neg (by simp)]
      exact parts_l2 n n.toNat k 0 (by omega) (by omega) (by omega) (by omega) (by omega)
theorem parts_l1 (b : List Int) (hb : isLv b) (hbl : b.length ≤ 1000) (d : Nat) : ∀ (k i : Nat), b.length - i = d → i ≤ b.length → 500 + d < k → magnetolaw05_StuffParts.l1 k n b (b.map (1 - ·)) (i : Int) = some true := by
  have hml : (b.map (1 - ·)).length = b.length := List.length_map _
  induction d with
  | zero =>
    intro k i hd hi hk
    obtain ⟨k, rfl⟩ : ∃ m, k = m + 1 := ⟨k - 1, by omega⟩
    simp only [magnetolaw05_StuffParts.l1]
    rw [if_neg (by omega)]
    exact parts_end n k (by omega)
  | succ d ih =>
    intro k i hd hi hk
    obtain ⟨k, rfl⟩ : ∃ m, k = m + 1 := ⟨k - 1, by omega⟩
    have hi' : i < b.length := by omega
    have hx := rd_lv hb i hi'
    have e : rd (b.map (1 - ·)) (i : Int) = 1 - rd b (i : Int) := by
      rw [rd_at _ i (by omega), rd_at _ i hi', List.getElem_map]
    simp only [magnetolaw05_StuffParts.l1]
    rw [if_pos (by omega), if_pos (by omega), if_pos (by omega), e, wrap_in (x := 1 - rd b (i : Int)) (by omega) (by omega), if_pos rfl, wrap_in (by omega) (by omega), show (i : Int) + 1 = ((i + 1 : Nat) : Int) by omega]
    exact ih k (i + 1) (by omega) (by omega) (by omega)
theorem parts_l0 (l : List Int) (hv : isLv l) (hl : l.length ≤ 300) (d : Nat) : ∀ (k i : Nat), l.length - i = d → i ≤ l.length → 1000 + d < k → magnetolaw05_StuffParts.l0 k n l (stuffed l) ((l.take i).map (1 - ·)) (i : Int) = some true := by
  have hsl := stuffed_length l
  induction d with
  | zero =>
    intro k i hd hi hk
    obtain ⟨k, rfl⟩ : ∃ m, k = m + 1 := ⟨k - 1, by omega⟩
    simp only [magnetolaw05_StuffParts.l0]
    rw [if_neg (by omega), List.take_of_length_le (by omega), add_lv (other_lv hv) (by rw [List.length_map]; omega), stuffed_other]
    simp only [Option.bind_some]
    rw [if_pos (by rw [List.length_map])]
    exact parts_l1 n (stuffed l) (stuffed_lv hv) (by omega) _ k 0 rfl (by omega) (by omega)
  | succ d ih =>
    intro k i hd hi hk
    obtain ⟨k, rfl⟩ : ∃ m, k = m + 1 := ⟨k - 1, by omega⟩
    have hi' : i < l.length := by omega
    have hx := rd_lv hv i hi'
    have hn := ih k (i + 1) (by omega) (by omega) (by omega)
    rw [take_snoc_rd l i hi', List.map_append, List.map_singleton] at hn
    simp only [magnetolaw05_StuffParts.l0]
    rw [if_pos (by omega), if_pos (by omega), if_pos (by rw [List.length_map, List.length_take]; omega), wrap_in (x := 1 - rd l (i : Int)) (by omega) (by omega), wrap_in (by omega) (by omega), show (i : Int) + 1 = ((i + 1 : Nat) : Int) by omega]
    exact hn
end
theorem StuffParts : magnetolaw05_StuffParts.Pure := by
  intro a b n _ _ _ _ _
  obtain ⟨k, hk⟩ : ∃ k : Nat, k = 3000 := ⟨_, rfl⟩
  refine ⟨k, ?_⟩
  obtain ⟨k, rfl⟩ : ∃ m, k = m + 1 + 1 := ⟨k - 2, by omega⟩
  have hout : magnetolaw05_StuffParts.j0 (k + 1 + 1) n true a b = some true := by
    simp only [magnetolaw05_StuffParts.j0]
    rw [if_pos trivial, awake05 (by omega)]
    rfl
  unfold magnetolaw05_StuffParts.f
  by_cases ha : (a.length : Int) > 150
  · rw [if_pos ha]
    exact hout
  rw [if_neg ha]
  by_cases hb : (b.length : Int) > 150
  · rw [decide_eq_true hb]
    exact hout
  rw [decide_eq_false hb]
  simp only [magnetolaw05_StuffParts.j0]
  have hab : (a ++ b).length ≤ 300 := by rw [List.length_append]; omega
  rw [if_neg (by simp)]
  simp only [Option.bind_some, List.nil_append]
  rw [if_pos (by simp; omega), if_pos (by omega), check_eq]
  simp only [Option.bind_some]
  by_cases hv : isLv (a ++ b)
  · have hav := (isLv_append.1 hv).1
    have h1 := stuffed_length (a ++ b)
    have h2 := stuffed_length a
    have hp := stuffed_prefix a b
    have hpl := hp.length_le
    rw [chk_of_lv hv, if_neg (by omega), add_lv hav (by omega), add_lv hv (by omega)]
    simp only [Option.bind_some]
    rw [if_neg (by omega), if_pos (by omega), if_pos (by omega), Int.toNat_natCast, ints05_eq _ _ (by rw [List.length_take]; omega) _ (by rw [List.length_take]; omega)]
    simp only [Option.bind_some]
    rw [← List.prefix_iff_eq_take.1 hp, decide_eq_true rfl]
    simp only [magnetolaw05_StuffParts.j1]
    rw [if_neg (by simp)]
    exact parts_l0 n (a ++ b) hv hab _ k 0 rfl (by omega) (by omega)
  · rw [if_pos (chk_ge hv).1, count_no hv (by omega)]
    simp only [Option.bind_some]
    rw [if_pos trivial, awake05 (by omega)]
    rfl
end Go.Proofs.Ytipflkbpjnacnaa.Pure
