/- magnetolaw01.BitsParts answers true for every two rows: runs have all numbers, begin where one differs, and rows behind one another have both's runs. Conditions: none. -/
import Derived.Test.YtipflkbpjnacnaaRBitsParts
import Derived.Test.YtipflkbpjnacnaaQRuns
import Derived.Test.YtipflkbpjnacnaaQAwake01
namespace Go.Proofs.Ytipflkbpjnacnaa.Pure
open Go.RowKit Go.Proofs.Ytipflkbpjnacnaa.PA Go.Proofs.YtipflkbpjnacnaaW.PrintWords Go.Proofs.YtipflkbpjnacnaaW.PrintLast Go.Proofs.YtipflkbpjnacnaaW.PrintMore

theorem getLast_snoc (l : List Int) (x : Int) : (l ++ [x]).getLast? = some x := by simp
theorem runs_length_snoc (l : List Int) (x : Int) : (runs (l ++ [x])).length = (runs l).length + if l.getLast? = some x then 0 else 1 := by
  rw [runs_snoc]
  unfold runStep
  rcases snoc_cases l with rfl | ⟨t, y, rfl⟩
  · simp
  · rw [getLast_snoc]
    simp only [Option.some.injEq]
    by_cases h : x = y
    · rw [if_pos h, if_pos h.symm, List.length_set]
      rfl
    · rw [if_neg h, if_neg (fun e => h e.symm)]
      simp
/-- How many runs two rows have, one behind the other. -/
theorem runs_append (a b : List Int) : ((runs (a ++ b)).length : Int) = (runs a).length + (runs b).length - if a ≠ [] ∧ b ≠ [] ∧ a.getLast? = some (rd b 0) then 1 else 0 := by
  induction b using snoc_ind with
  | h0 => simp [runs_nil]
  | h1 b x ih =>
    rw [← List.append_assoc, runs_length_snoc, runs_length_snoc]
    rcases snoc_cases b with rfl | ⟨t, y, rfl⟩
    · have hr : rd ([] ++ [x]) 0 = x := rfl
      rw [hr]
      simp only [List.append_nil, runs_nil, List.length_nil, List.getLast?_nil, List.nil_append]
      rcases snoc_cases a with rfl | ⟨s, z, rfl⟩
      · simp [runs_nil]
      · rw [getLast_snoc]
        simp only [Option.some.injEq]
        by_cases h : z = x
        · rw [if_pos h, if_pos ⟨by simp, by simp, h⟩]
          simp
        · rw [if_neg h, if_neg (fun g => h g.2.2)]
          simp
    · have hr : rd (t ++ [y] ++ [x]) 0 = rd (t ++ [y]) 0 := by
        cases t <;> rfl
      have hl : (a ++ (t ++ [y])).getLast? = (t ++ [y]).getLast? := by
        rw [← List.append_assoc, getLast_snoc, getLast_snoc]
      rw [hr, hl]
      have hc : (a ≠ [] ∧ t ++ [y] ++ [x] ≠ [] ∧ a.getLast? = some (rd (t ++ [y]) 0)) ↔ (a ≠ [] ∧ t ++ [y] ≠ [] ∧ a.getLast? = some (rd (t ++ [y]) 0)) := by simp
      simp only [hc]
      omega

/-- Blocks of one number each, one behind the other. -/
def flat (bs : List (Nat × Int)) : List Int := (bs.map fun b => List.replicate b.1 b.2).flatten
theorem flat_append (a b : List (Nat × Int)) : flat (a ++ b) = flat a ++ flat b := by simp [flat]
theorem flat_single (b : Nat × Int) : flat [b] = List.replicate b.1 b.2 := by simp [flat]
theorem blocks (l : List Int) : ∃ bs : List (Nat × Int), flat bs = l ∧ runs l = bs.map (fun b => (b.1 : Int)) ∧ (∀ b ∈ bs, 1 ≤ b.1) ∧ (∀ i, i + 1 < bs.length → (bs.map (·.2)).getD i 0 ≠ (bs.map (·.2)).getD (i + 1) 0) ∧ l.getLast? = bs.getLast?.map (·.2) := by
  induction l using snoc_ind with
  | h0 => exact ⟨[], rfl, rfl, by simp, by simp, rfl⟩
  | h1 l x ih =>
    obtain ⟨bs, h1, h2, h3, h4, h5⟩ := ih
    rw [runs_snoc, h2]
    unfold runStep
    rw [h5]
    rcases List.eq_nil_or_concat bs with rfl | ⟨t, b, rfl⟩
    · subst h1
      exact ⟨[(1, x)], rfl, rfl, by simp, by simp, rfl⟩
    · rw [List.concat_eq_append] at h1 h3 h4 ⊢
      simp only [List.getLast?_append, List.getLast?_singleton, Option.some_or, Option.map_some]
      by_cases hx : x = b.2
      · refine ⟨t ++ [(b.1 + 1, b.2)], ?_, ?_, ?_, ?_, ?_⟩
        · rw [flat_append, flat_single] at h1 ⊢
          rw [← h1, hx, List.append_assoc, List.replicate_succ']
        · rw [if_pos hx]
          simp
        · intro c hc
          rcases List.mem_append.1 hc with h | h
          · exact h3 c (List.mem_append_left _ h)
          · simp at h
            subst h
            simp
        · intro i hi
          have := h4 i (by simpa using hi)
          simpa using this
        · simp [hx]
      · refine ⟨t ++ [b] ++ [(1, x)], ?_, ?_, ?_, ?_, ?_⟩
        · rw [flat_append, flat_single, h1]
          rfl
        · rw [if_neg hx]
          simp
        · intro c hc
          rcases List.mem_append.1 hc with h | h
          · exact h3 c h
          · simp at h
            subst h
            simp
        · intro i hi
          simp only [List.length_append, List.length_singleton] at hi
          have e : (t ++ [b] ++ [(1, x)]).map (fun c : Nat × Int => c.2) = (t ++ [b]).map (fun c : Nat × Int => c.2) ++ [x] := by simp
          rw [e]
          by_cases hl : i + 1 < (t ++ [b]).length
          · have := h4 i hl
            simp only [List.getD_eq_getElem?_getD] at this ⊢
            rw [List.getElem?_append_left (by rw [List.length_map]; omega), List.getElem?_append_left (by rw [List.length_map]; omega)]
            exact this
          · have hi' : i = t.length := by simp at hl; omega
            subst hi'
            simp only [List.getD_eq_getElem?_getD]
            rw [List.getElem?_append_left (by simp), List.getElem?_append_right (by simp)]
            simp
            exact fun e => hx e.symm
        · simp
theorem rd_parts (p q : List Int) (i : Int) (j : Nat) (hi : i = p.length + j) : rd (p ++ q) i = q.getD j 0 := by
  unfold rd
  rw [show i.toNat = p.length + j by omega, List.getD_eq_getElem?_getD, List.getElem?_append_right (by omega), Nat.add_sub_cancel_left, List.getD_eq_getElem?_getD]
section
variable (a b : List Int) (ha : a.length ≤ 150) (hb : b.length ≤ 150)
include ha hb
theorem parts_last (k : Nat) (hk : 900 < k) (x5 : Int) (h5 : x5 = ((a ++ b).length : Int)) (x6 : Int) (h6 : ¬ (x6 < ((runs (a ++ b)).length : Int))) : magnetolaw01_BitsParts.l0 k (a ++ b) (runs (a ++ b)) x5 x6 a b = some true := by
  obtain ⟨k, rfl⟩ : ∃ m, k = m + 1 := ⟨k - 1, by omega⟩
  have h1 := runs_append a b
  have h2 := runs_length a
  have h3 := runs_length b
  simp only [magnetolaw01_BitsParts.l0]
  rw [if_neg h6, runs_eq a (by omega) (by omega), runs_eq b (by omega) (by omega)]
  simp only [Option.bind_some]
  rw [wrap_in (x := ((runs a).length : Int) + ((runs b).length : Int)) (by omega) (by omega), wrap_in (x := (a.length : Int) - 1) (by omega) (by omega)]
  by_cases ea : (a.length : Int) > 0
  · have na : a ≠ [] := by rintro rfl; simp at ea
    have hra := runs_pos na
    rw [if_pos ea]
    by_cases eb : (b.length : Int) > 0
    · have nb : b ≠ [] := by rintro rfl; simp at eb
      have hrb := runs_pos nb
      have hlast : a.getLast? = some (rd a ((a.length : Int) - 1)) := by
        rcases snoc_cases a with rfl | ⟨t, y, rfl⟩
        · simp at ea
        · rw [getLast_snoc, rd_parts t [y] _ 0 (by rw [List.length_append, List.length_singleton]; omega)]
          rfl
      rw [if_pos eb, if_pos (by omega), if_pos (by omega), if_pos (by omega)]
      by_cases e : rd a ((a.length : Int) - 1) = rd b 0
      · rw [if_pos ⟨na, nb, by rw [hlast, e]⟩] at h1
        rw [if_pos e, if_pos h5, wrap_in (by omega) (by omega), if_pos h1, awake01 (by omega)]
        rfl
      · have e' : ¬ (a ≠ [] ∧ b ≠ [] ∧ a.getLast? = some (rd b 0)) := by
          rintro ⟨_, _, h⟩
          rw [hlast] at h
          injection h with h
          exact e h
        rw [if_neg e'] at h1
        rw [if_neg e, if_pos h5, if_pos (by omega), awake01 (by omega)]
        rfl
    · have nb : b = [] := List.eq_nil_of_length_eq_zero (by omega)
      rw [if_neg (fun g => g.2.1 nb)] at h1
      rw [if_neg eb, if_pos h5, if_pos (by omega), awake01 (by omega)]
      rfl
  · have na : a = [] := List.eq_nil_of_length_eq_zero (by omega)
    rw [if_neg (fun g => g.1 na)] at h1
    rw [if_neg ea, if_pos h5, if_pos (by omega), awake01 (by omega)]
    rfl
variable (bs : List (Nat × Int)) (hf : flat bs = a ++ b) (hr : runs (a ++ b) = bs.map (fun b => (b.1 : Int))) (hp : ∀ b ∈ bs, 1 ≤ b.1) (hn : ∀ i, i + 1 < bs.length → (bs.map (·.2)).getD i 0 ≠ (bs.map (·.2)).getD (i + 1) 0)
include hf hr
theorem parts_l1 (c i : Nat) (hi : i < bs.length) (hnext : ∀ k, c < k → magnetolaw01_BitsParts.l0 k (a ++ b) (runs (a ++ b)) (((flat (bs.take (i + 1))).length : Nat) : Int) ((i + 1 : Nat) : Int) a b = some true) (d : Nat) :
    ∀ (k j : Nat), (bs[i]).1 - j = d → j ≤ (bs[i]).1 → c + 1 + d < k →
    magnetolaw01_BitsParts.l1 k (a ++ b) (runs (a ++ b)) (((flat (bs.take i)).length : Nat) : Int) (i : Int) (((flat (bs.take i)).length + j : Nat) : Int) a b = some true := by
  have htk : bs.take (i + 1) = bs.take i ++ [bs[i]] := List.take_succ_eq_append_getElem hi
  have hsplit : a ++ b = flat (bs.take i) ++ (List.replicate (bs[i]).1 (bs[i]).2 ++ flat (bs.drop (i + 1))) := by
    rw [← hf, ← flat_single, ← List.append_assoc, ← flat_append, ← htk, ← flat_append, List.take_append_drop]
  have hlen := congrArg List.length hsplit
  simp only [List.length_append, List.length_replicate] at hlen
  have hri : rd (runs (a ++ b)) (i : Int) = ((bs[i]).1 : Int) := by
    rw [hr, rd_at _ i (by rw [List.length_map]; exact hi), List.getElem_map]
  have hrl : (runs (a ++ b)).length = bs.length := by rw [hr, List.length_map]
  have hrn := runs_length (a ++ b)
  have hfl : (flat (bs.take (i + 1))).length = (flat (bs.take i)).length + (bs[i]).1 := by
    rw [htk, flat_append, flat_single, List.length_append, List.length_replicate]
  have hval : ∀ j, j < (bs[i]).1 → rd (a ++ b) (((flat (bs.take i)).length + j : Nat) : Int) = (bs[i]).2 := by
    intro j hj
    rw [hsplit, rd_parts (flat (bs.take i)) _ _ j (by omega), List.getD_eq_getElem?_getD, List.getElem?_append_left (by rw [List.length_replicate]; exact hj), List.getElem?_replicate, if_pos hj]
    rfl
  have habl : (a ++ b).length ≤ 300 := by rw [List.length_append]; omega
  have habl2 : (a ++ b).length = a.length + b.length := List.length_append
  induction d with
  | zero =>
    intro k j hd hj hk
    obtain ⟨k, rfl⟩ : ∃ m, k = m + 1 := ⟨k - 1, by omega⟩
    simp only [magnetolaw01_BitsParts.l1]
    rw [if_pos (by omega), if_pos (by omega), hri, wrap_in (x := (((flat (bs.take i)).length : Nat) : Int) + ((bs[i]).1 : Int)) (by omega) (by omega), if_neg (by omega), wrap_in (by omega) (by omega)]
    have := hnext k (by omega)
    rw [hfl, show (((flat (bs.take i)).length + (bs[i]).1 : Nat) : Int) = (((flat (bs.take i)).length : Nat) : Int) + ((bs[i]).1 : Int) by omega, show ((i + 1 : Nat) : Int) = (i : Int) + 1 by omega] at this
    exact this
  | succ d ih =>
    intro k j hd hj hk
    obtain ⟨k, rfl⟩ : ∃ m, k = m + 1 := ⟨k - 1, by omega⟩
    have h0 := hval 0 (by omega)
    rw [Nat.add_zero] at h0
    simp only [magnetolaw01_BitsParts.l1]
    rw [if_pos (by omega), if_pos (by omega), hri, wrap_in (x := (((flat (bs.take i)).length : Nat) : Int) + ((bs[i]).1 : Int)) (by omega) (by omega), if_pos (by omega), if_pos (by omega), if_pos (by omega), if_pos (by omega), if_pos (by omega), hval j (by omega), h0, if_pos rfl, wrap_in (by omega) (by omega)]
    have := ih k (j + 1) (by omega) (by omega) (by omega)
    rw [show (((flat (bs.take i)).length + (j + 1) : Nat) : Int) = (((flat (bs.take i)).length + j : Nat) : Int) + 1 by omega] at this
    exact this
include hp hn
theorem parts_l0 (d : Nat) : ∀ (k i : Nat), bs.length - i = d → i ≤ bs.length → 1000 + d * 400 < k →
    magnetolaw01_BitsParts.l0 k (a ++ b) (runs (a ++ b)) (((flat (bs.take i)).length : Nat) : Int) (i : Int) a b = some true := by
  have hrl : (runs (a ++ b)).length = bs.length := by rw [hr, List.length_map]
  have hrn := runs_length (a ++ b)
  induction d with
  | zero =>
    intro k i hd hi hk
    refine parts_last a b ha hb k (by omega) _ ?_ _ (by omega)
    rw [List.take_of_length_le (by omega), hf]
  | succ d ih =>
    intro k i hd hi hk
    obtain ⟨k, rfl⟩ : ∃ m, k = m + 1 + 1 := ⟨k - 2, by omega⟩
    have hi' : i < bs.length := by omega
    have htk : bs.take (i + 1) = bs.take i ++ [bs[i]] := List.take_succ_eq_append_getElem hi'
    have hsplit : a ++ b = flat (bs.take i) ++ (List.replicate (bs[i]).1 (bs[i]).2 ++ flat (bs.drop (i + 1))) := by
      rw [← hf, ← flat_single, ← List.append_assoc, ← flat_append, ← htk, ← flat_append, List.take_append_drop]
    have hlen := congrArg List.length hsplit
    simp only [List.length_append, List.length_replicate] at hlen
    have habl : (a ++ b).length ≤ 300 := by rw [List.length_append]; omega
    have habl2 : (a ++ b).length = a.length + b.length := List.length_append
    have hri : rd (runs (a ++ b)) (i : Int) = ((bs[i]).1 : Int) := by
      rw [hr, rd_at _ i (by rw [List.length_map]; exact hi'), List.getElem_map]
    have hpi := hp bs[i] (List.getElem_mem hi')
    have hmem : ((bs[i]).1 : Int) ∈ runs (a ++ b) := by
      rw [hr]
      exact List.mem_map.2 ⟨bs[i], List.getElem_mem hi', rfl⟩
    have hlo : ((bs[i]).1 : Int) ≤ longest (a ++ b) := maxFrom_mem _ _ _ hmem
    have hnx : ∀ k, 1000 + d * 400 < k → magnetolaw01_BitsParts.l0 k (a ++ b) (runs (a ++ b)) (((flat (bs.take (i + 1))).length : Nat) : Int) ((i + 1 : Nat) : Int) a b = some true :=
      fun k hk => ih k (i + 1) (by omega) (by omega) hk
    have hl1 := parts_l1 a b ha hb bs hf hr (1000 + d * 400) i hi' hnx (bs[i]).1 k 0 (Nat.sub_zero _) (Nat.zero_le _) (by omega)
    rw [Nat.add_zero] at hl1
    have hj2 : magnetolaw01_BitsParts.j2 (k + 1) (a ++ b) (runs (a ++ b)) (((flat (bs.take i)).length : Nat) : Int) (i : Int) false a b = some true := by
      simp only [magnetolaw01_BitsParts.j2]
      rw [if_neg (by simp)]
      exact hl1
    rw [magnetolaw01_BitsParts.l0]
    rw [if_pos (by omega), if_pos (by omega), hri, if_neg (by omega), longest_eq _ (by omega) (by omega)]
    simp only [Option.bind_some]
    rw [if_neg (by omega), wrap_in (x := (((flat (bs.take i)).length : Nat) : Int) + ((bs[i]).1 : Int)) (by omega) (by omega), if_neg (by omega)]
    by_cases h0 : (i : Int) > 0
    · obtain ⟨m, rfl⟩ : ∃ m, i = m + 1 := ⟨i - 1, by omega⟩
      have hm : m < bs.length := by omega
      have htm : bs.take (m + 1) = bs.take m ++ [bs[m]] := List.take_succ_eq_append_getElem hm
      have hpm := hp bs[m] (List.getElem_mem hm)
      have hfm : (flat (bs.take (m + 1))).length = (flat (bs.take m)).length + (bs[m]).1 := by
        rw [htm, flat_append, flat_single, List.length_append, List.length_replicate]
      have e1 : rd (a ++ b) (((flat (bs.take (m + 1))).length : Nat) : Int) = (bs[m + 1]).2 := by
        rw [hsplit, rd_parts (flat (bs.take (m + 1))) _ _ 0 (by omega), List.getD_eq_getElem?_getD, List.getElem?_append_left (by rw [List.length_replicate]; omega), List.getElem?_replicate, if_pos (by omega)]
        rfl
      have e2 : rd (a ++ b) ((((flat (bs.take (m + 1))).length : Nat) : Int) - 1) = (bs[m]).2 := by
        rw [hsplit]
        conv => lhs; arg 1; rw [htm, flat_append, flat_single, List.append_assoc]
        rw [rd_parts (flat (bs.take m)) _ _ ((bs[m]).1 - 1) (by omega), List.getD_eq_getElem?_getD, List.getElem?_append_left (by rw [List.length_replicate]; omega), List.getElem?_replicate, if_pos (by omega)]
        rfl
      have hne := hn m (by omega)
      simp only [List.getD_eq_getElem?_getD] at hne
      rw [List.getElem?_eq_getElem (by rw [List.length_map]; omega), List.getElem?_eq_getElem (by rw [List.length_map]; omega), List.getElem_map, List.getElem_map, Option.getD_some, Option.getD_some] at hne
      rw [if_pos h0, if_pos (by omega), if_pos (by omega), wrap_in (x := (((flat (bs.take (m + 1))).length : Nat) : Int) - 1) (by omega) (by omega), if_pos (by omega), if_pos (by omega), e1, e2]
      have : ((bs[m + 1]).2 == (bs[m]).2) = false := by
        rw [beq_eq_false_iff_ne]
        exact fun e => hne e.symm
      rw [this]
      exact hj2
    · rw [if_neg h0]
      exact hj2
end
theorem BitsParts : magnetolaw01_BitsParts.Pure := by
  intro a b _ _ _ _
  obtain ⟨k, hk⟩ : ∃ k : Nat, k = 300000 := ⟨_, rfl⟩
  refine ⟨k, ?_⟩
  obtain ⟨k, rfl⟩ : ∃ m, k = m + 1 := ⟨k - 1, by omega⟩
  have hout : magnetolaw01_BitsParts.j0 (k + 1) true a b = some true := by
    simp only [magnetolaw01_BitsParts.j0]
    rw [if_pos trivial, awake01 (by omega)]
    rfl
  unfold magnetolaw01_BitsParts.f
  by_cases ha : (a.length : Int) > 150
  · rw [if_pos ha]
    exact hout
  rw [if_neg ha]
  by_cases hb : (b.length : Int) > 150
  · rw [decide_eq_true hb]
    exact hout
  rw [decide_eq_false hb]
  simp only [magnetolaw01_BitsParts.j0]
  have hab : (a ++ b).length ≤ 300 := by rw [List.length_append]; omega
  rw [if_neg (by simp)]
  simp only [Option.bind_some, List.nil_append]
  rw [if_pos (by simp; omega), if_pos (by omega), runs_eq _ (by omega) (by omega)]
  simp only [Option.bind_some]
  obtain ⟨bs, h1, h2, h3, h4, _⟩ := blocks (a ++ b)
  have hbl : bs.length ≤ 300 := by
    have := runs_length (a ++ b)
    rw [h2, List.length_map] at this
    omega
  exact parts_l0 a b (by omega) (by omega) bs h1 h2 h3 h4 bs.length k 0 (by omega) (by omega) (by omega)
end Go.Proofs.Ytipflkbpjnacnaa.Pure
