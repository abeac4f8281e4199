import Derived.Test.YtmhagleekhihoaaSLawPlaces
import Derived.Test.YtmhagleekhihoaaAK22
namespace Go.AK
open Go Go.RowKit Go.Proofs
set_option linter.unusedVariables false
theorem place_split : ∀ (L M : List Int) (k : Int), 0 ≤ k → 0 ≤ placeL L M k → ∃ p : Nat, placeL L M k = k + p ∧ L.take p = M.take p ∧ ∃ a b, L[p]? = some a ∧ M[p]? = some b ∧ a ≠ b
  | [], M, k, _, h => by rw [placeL_end (.inl rfl)] at h; omega
  | a :: L, [], k, _, h => by rw [placeL_end (.inr rfl)] at h; omega
  | a :: L, b :: M, k, hk, h => by
    unfold placeL at h ⊢
    by_cases e : a = b
    · rw [if_pos e] at h ⊢
      obtain ⟨p, h1, h2, x, y, h3, h4, h5⟩ := place_split L M (k + 1) (by omega) h
      exact ⟨p + 1, by omega, by rw [List.take_succ_cons, List.take_succ_cons, h2, e], x, y, by simpa using h3, by simpa using h4, h5⟩
    · rw [if_neg e]
      exact ⟨0, by omega, rfl, a, b, rfl, rfl, e⟩
/-- Who comes ahead of all others. -/
structure Least (l : List Fr) (w : Int) : Prop where
  lo : 0 ≤ w
  hi : w < l.length
  lt : ∀ i : Int, 0 ≤ i → i < l.length → i ≠ w → cmpL (at_ l w).row (at_ l i).row < 0
def dpN (l : List Fr) (w i : Int) : Nat := (placeL (at_ l i).row (at_ l w).row 0).toNat
theorem Least.dp {l : List Fr} {w : Int} (h : Least l w) {i : Int} (h0 : 0 ≤ i) (h1 : i < l.length) (hne : i ≠ w) :
    (at_ l i).row.take (dpN l w i) = (at_ l w).row.take (dpN l w i) ∧ (at_ l i).row[dpN l w i]? = some 1 ∧ (at_ l w).row[dpN l w i]? = some 0 ∧ losesL (at_ l i).row (at_ l w).row 0 = dpN l w i := by
  have hlt := h.lt i h0 h1 hne
  have hp : 0 ≤ placeL (at_ l i).row (at_ l w).row 0 := Int.not_lt.1 fun e => by
    rw [place_rows.1 e, cmpL_zero.2 rfl] at hlt; omega
  obtain ⟨p, h1, h2, a, b, h3, h4, h5⟩ := place_split _ _ 0 (by omega) hp
  have hpn : dpN l w i = p := by unfold dpN; omega
  rw [hpn]
  have hle := cmpL_at p h2.symm h4 h3 hlt
  have ha := row_lv (at_ l i) a (List.mem_of_getElem? h3)
  have hb := row_lv (at_ l w) b (List.mem_of_getElem? h4)
  have hb0 : b = 0 := by omega
  have ha1 : a = 1 := by omega
  subst hb0; subst ha1
  refine ⟨h2, h3, h4, ?_⟩
  rw [loses_place _ _ 0 (by omega) (row_lv _), if_neg (by omega), h1, show (0 + (p : Int) - 0).toNat = p from by omega, List.getD_eq_getElem?_getD, h3]
  simp
def oV (l : List Fr) (w : Int) (k : Nat) (i : Int) : Int := if i = w ∨ k ≤ dpN l w i then -1 else dpN l w i
theorem oV_neg {l : List Fr} {w : Int} {k : Nat} {i : Int} : oV l w k i < 0 ↔ i = w ∨ k ≤ dpN l w i := by
  unfold oV
  split
  · rename_i h; exact ⟨fun _ => h, fun _ => by omega⟩
  · rename_i h; exact ⟨fun h2 => by omega, fun h2 => absurd h2 h⟩
theorem oV_zero (l : List Fr) (w i : Int) : oV l w 0 i = -1 := by unfold oV; rw [if_pos (.inr (Nat.zero_le _))]
theorem take_get {L M : List Int} {p k : Nat} (h : L.take p = M.take p) (hk : k < p) : L[k]? = M[k]? := by
  have := congrArg (fun X => X[k]?) h
  simpa [List.getElem?_take, hk] using this
theorem Least.same {l : List Fr} {w : Int} (h : Least l w) {k : Nat} {i : Int} (h0 : 0 ≤ i) (h1 : i < l.length) (hne : i ≠ w) (hk : k < dpN l w i) : (at_ l i).row[k]? = (at_ l w).row[k]? :=
  take_get (h.dp h0 h1 hne).1 hk
def levL (l : List Fr) (w : Int) (k i : Nat) : List Int := ((iota i).filter fun j => decide (oV l w k j < 0) && decide (k < (at_ l j).row.length)).map fun j => (at_ l j).row.getD k 0
theorem levL_in {l : List Fr} {w : Int} {k i : Nat} {x : Int} (h : oV l w k i < 0) (h2 : (at_ l i).row[k]? = some x) : levL l w k (i + 1) = levL l w k i ++ [x] := by
  unfold levL
  have hk : k < (at_ l i).row.length := (List.getElem?_eq_some_iff.1 h2).1
  rw [iota_succ, List.filter_append, List.map_append, List.filter_cons_of_pos (by simp [h, hk])]
  simp [List.getD_eq_getElem?_getD, h2]
theorem levL_out {l : List Fr} {w : Int} {k i : Nat} (h : ¬ (oV l w k i < 0 ∧ k < (at_ l i).row.length)) : levL l w k (i + 1) = levL l w k i := by
  unfold levL
  rw [iota_succ, List.filter_append, List.filter_cons_of_neg (by simpa using h)]
  simp
theorem levL_le (l : List Fr) (w : Int) (k i : Nat) : (levL l w k i).length ≤ i := by
  unfold levL
  rw [List.length_map]
  exact Nat.le_trans (List.length_filter_le _ _) (by rw [iota_length]; omega)
theorem Least.wire {l : List Fr} {w : Int} (h : Least l w) {k : Nat} {a : Int} (ha : (at_ l w).row[k]? = some a) : (if (0 : Int) ∈ levL l w k l.length then 0 else 1) = a := by
  have hv := row_lv (at_ l w) a (List.mem_of_getElem? ha)
  have hkw : k < (at_ l w).row.length := (List.getElem?_eq_some_iff.1 ha).1
  split
  · rename_i hz
    obtain ⟨j, hj, hx⟩ := List.mem_map.1 hz
    obtain ⟨hj, hc⟩ := List.mem_filter.1 hj
    have hj := mem_iota.1 hj
    simp only [Bool.and_eq_true, decide_eq_true_eq, oV_neg] at hc
    have hjk := List.getElem?_eq_getElem hc.2
    rw [List.getD_eq_getElem?_getD, hjk, Option.getD_some] at hx
    rw [hx] at hjk
    by_cases e : j = w
    · subst e; rw [ha] at hjk; exact (Option.some.inj hjk).symm
    · have hk := hc.1.resolve_left e
      have hd := h.dp hj.1 hj.2 e
      by_cases e2 : k = dpN l w j
      · subst e2; rw [hd.2.1] at hjk; cases hjk
      · have := h.same hj.1 hj.2 e (show k < dpN l w j by omega)
        rw [hjk, ha] at this
        exact Option.some.inj this
  · rename_i hz
    rcases hv with h0 | h0
    · exfalso
      refine hz (List.mem_map.2 ⟨w, List.mem_filter.2 ⟨mem_iota.2 ⟨h.lo, h.hi⟩, ?_⟩, ?_⟩)
      · simp [oV_neg, hkw]
      · rw [List.getD_eq_getElem?_getD, ha, h0]; rfl
    · exact h0.symm
theorem Least.hit {l : List Fr} {w : Int} (h : Least l w) {k : Nat} {a i : Int} (ha : (at_ l w).row[k]? = some a) (h0 : 0 ≤ i) (h1 : i < l.length) (hn : oV l w k i < 0) (hx : (at_ l i).row[k]? ≠ some a) : oV l w (k + 1) i = k := by
  rw [oV_neg] at hn
  by_cases e : i = w
  · subst e; exact absurd ha hx
  · have hk := hn.resolve_left e
    by_cases e2 : k = dpN l w i
    · unfold oV
      rw [if_neg (by omega)]; omega
    · have := h.same h0 h1 e (show k < dpN l w i by omega)
      rw [ha] at this
      exact absurd this hx
theorem Least.miss {l : List Fr} {w : Int} (h : Least l w) {k : Nat} {a i : Int} (ha : (at_ l w).row[k]? = some a) (h0 : 0 ≤ i) (h1 : i < l.length) (hx : oV l w k i < 0 → (at_ l i).row[k]? = some a) : oV l w (k + 1) i = oV l w k i := by
  by_cases hn : oV l w k i < 0
  · have hx := hx hn
    rw [oV_neg] at hn
    by_cases e : i = w
    · unfold oV; rw [if_pos (.inl e), if_pos (.inl e)]
    · have hk := hn.resolve_left e
      by_cases e2 : k = dpN l w i
      · have hd := h.dp h0 h1 e
        rw [← e2] at hd
        rw [hd.2.1] at hx
        rw [hd.2.2.1] at ha
        have e1 := Option.some.inj hx
        have e2 := Option.some.inj ha
        omega
      · unfold oV
        rw [if_pos (.inr (by omega)), if_pos (.inr hk)]
  · rw [oV_neg] at hn
    unfold oV
    rw [if_neg (by omega), if_neg hn]
def mixL (l : List Fr) (w : Int) (k i : Nat) : List Int := (iota l.length).map fun (j : Int) => if j < (i : Int) then oV l w (k + 1) j else oV l w k j
def outL (l : List Fr) (w : Int) (k : Nat) : List Int := (iota l.length).map (oV l w k)
theorem outL_length (l : List Fr) (w : Int) (k : Nat) : (outL l w k).length = l.length := by unfold outL; rw [List.length_map, iota_length]
theorem mixL_length (l : List Fr) (w : Int) (k i : Nat) : (mixL l w k i).length = l.length := by unfold mixL; rw [List.length_map, iota_length]
theorem iota_getQ {n i : Nat} (h : i < n) : (iota n)[i]? = some (i : Int) := by simp [iota, h]
theorem outL_get {l : List Fr} {w : Int} {k i : Nat} (h : i < l.length) : (outL l w k)[i]? = some (oV l w k i) := by
  unfold outL; rw [List.getElem?_map, iota_getQ h]; rfl
theorem mixL_get {l : List Fr} {w : Int} {k i : Nat} (h : i < l.length) : (mixL l w k i)[i]? = some (oV l w k i) := by
  unfold mixL; rw [List.getElem?_map, iota_getQ h, Option.map_some, if_neg (by omega)]
theorem mixL_zero (l : List Fr) (w : Int) (k : Nat) : mixL l w k 0 = outL l w k := by
  unfold mixL outL
  refine List.map_congr_left fun j hj => ?_
  have := mem_iota.1 hj
  rw [if_neg (by omega)]
theorem mixL_full (l : List Fr) (w : Int) (k : Nat) : mixL l w k l.length = outL l w (k + 1) := by
  unfold mixL outL
  refine List.map_congr_left fun j hj => ?_
  have := mem_iota.1 hj
  rw [if_pos (by omega)]
theorem mixL_set {l : List Fr} {w : Int} {k i : Nat} (h : i < l.length) {x : Int} (hx : oV l w (k + 1) i = x) : (mixL l w k i).set i x = mixL l w k (i + 1) := by
  refine List.ext_getElem? fun j => ?_
  by_cases hj : j < l.length
  · rw [List.getElem?_set, mixL_length]
    unfold mixL
    rw [List.getElem?_map, List.getElem?_map, iota_getQ hj, Option.map_some, Option.map_some]
    by_cases e : i = j
    · subst e
      rw [if_pos rfl, if_pos h, if_pos (by omega), hx]
    · rw [if_neg e]
      by_cases h2 : j < i
      · rw [if_pos (by omega), if_pos (by omega)]
      · rw [if_neg (by omega), if_neg (by omega)]
  · rw [List.getElem?_eq_none (by rw [List.length_set, mixL_length]; omega), List.getElem?_eq_none (by rw [mixL_length]; omega)]
theorem mixL_same {l : List Fr} {w : Int} {k i : Nat} (h : i < l.length) (hx : oV l w (k + 1) i = oV l w k i) : mixL l w k (i + 1) = mixL l w k i := by
  rw [← mixL_set h hx]
  refine List.ext_getElem? fun j => ?_
  by_cases e : i = j
  · subst e; rw [List.getElem?_set, if_pos rfl, mixL_length, if_pos h, mixL_get h]
  · rw [List.getElem?_set, if_neg e]
/-- Where each one dropped out, at the end. -/
theorem Least.fin {l : List Fr} {w : Int} (h : Least l w) {i : Int} (h0 : 0 ≤ i) (h1 : i < l.length) : oV l w (at_ l w).row.length i = if i = w then -1 else losesL (at_ l i).row (at_ l w).row 0 := by
  split
  · rename_i e; unfold oV; rw [if_pos (.inl e)]
  · rename_i e
    have hd := h.dp h0 h1 e
    have := (List.getElem?_eq_some_iff.1 hd.2.2.1).1
    unfold oV
    rw [if_neg (by omega), hd.2.2.2]
def rowsB (l : List Fr) (m : Nat) : List AV := (l.take m).map fun F => AV.rs (ints F.row) 0 1 F.row.length
theorem rowsB_length (l : List Fr) (m : Nat) (h : m ≤ l.length) : (rowsB l m).length = m := by unfold rowsB; rw [List.length_map, List.length_take]; omega
theorem rowsB_get {l : List Fr} {m i : Nat} (h : i < m) (h2 : i < l.length) : (rowsB l m)[i]? = some (.rs (ints l[i].row) 0 1 l[i].row.length) := by
  unfold rowsB; rw [List.getElem?_map, List.getElem?_take, if_pos h, List.getElem?_eq_getElem h2]; rfl
theorem rowsB_succ {l : List Fr} {m : Nat} (h : m < l.length) : rowsB l (m + 1) = rowsB l m ++ [.rs (ints l[m].row) 0 1 l[m].row.length] := by
  unfold rowsB; rw [List.take_add_one, List.getElem?_eq_getElem h, List.map_append]; rfl
theorem subs_app (φ : Nat → Sb) : ∀ (A B : List AV), subs φ (A ++ B) = subs φ A ++ subs φ B
  | [], B => rfl
  | x :: A, B => by rw [List.cons_append, subs, subs, subs_app φ A B]; rfl
theorem subs_rowsB (φ : Nat → Sb) (l : List Fr) (m : Nat) : subs φ (rowsB l m) = rowsB l m := by
  unfold rowsB
  induction l.take m with
  | nil => rfl
  | cons F L ih =>
    rw [List.map_cons, subs, ih]
    show AV.rs (subs φ (ints F.row)) 0 1 F.row.length :: _ = _
    rw [subs_nums]
theorem order_least {l : List Fr} (h : AllGo l) (h0 : 0 < l.length) : ∃ x : Nat, (ordL l).getD 0 0 = x ∧ Least l x := by
  have hg := ordL_good h
  have hol := ordL_length l
  obtain ⟨x, hx, hxl⟩ := plc_get (fun x hx => mem_iota.1 (hg.1.mem_iff.1 hx)) (show 0 < (ordL l).length by omega)
  refine ⟨x, by rw [List.getD_eq_getElem?_getD, hx]; rfl, ⟨by omega, by omega, fun i h1 h2 hne => ?_⟩⟩
  obtain ⟨q, hq, rfl⟩ := List.mem_iff_getElem.1 (hg.1.mem_iff.2 (mem_iota.2 ⟨h1, h2⟩))
  obtain ⟨h3, h4⟩ := List.getElem?_eq_some_iff.1 hx
  rw [← h4]
  refine List.pairwise_iff_getElem.1 hg.2 0 q h3 hq (Nat.pos_of_ne_zero fun e => ?_)
  subst e; exact hne h4
end Go.AK
