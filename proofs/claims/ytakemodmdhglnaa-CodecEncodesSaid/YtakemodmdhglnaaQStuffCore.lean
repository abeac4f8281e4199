/- Stuffing, in plain lists: how many are alike at a row's end; what is added; what is taken. No program in sight. -/
import Derived.Test.YtakemodmdhglnaaQCore
namespace Go.Proofs.Ytakemodmdhglnaa.Pure

/-- How many are alike at the end, and the last one. -/
def endStep (st : Nat × Option Int) (x : Int) : Nat × Option Int := if st.2 = some x then (st.1 + 1, some x) else (1, some x)
def endOf (l : List Int) : Nat × Option Int := l.foldl endStep (0, none)
def tailRun (l : List Int) : Nat := (endOf l).1
theorem endOf_snoc (l : List Int) (x : Int) : endOf (l ++ [x]) = endStep (endOf l) x := by simp [endOf]
theorem endOf_last (l : List Int) : (endOf l).2 = l.getLast? := by
  induction l using snoc_ind with
  | h0 => rfl
  | h1 l x ih => rw [endOf_snoc]; unfold endStep; split <;> simp
theorem tailRun_nil : tailRun [] = 0 := rfl
theorem tailRun_snoc (l : List Int) (x : Int) : tailRun (l ++ [x]) = if l.getLast? = some x then tailRun l + 1 else 1 := by
  unfold tailRun
  rw [endOf_snoc, endStep, endOf_last]
  split <;> rfl
theorem tailRun_pos (l : List Int) (x : Int) : 1 ≤ tailRun (l ++ [x]) := by rw [tailRun_snoc]; split <;> omega
theorem tailRun_le (l : List Int) : tailRun l ≤ l.length := by
  induction l using snoc_ind with
  | h0 => exact Nat.le_refl _
  | h1 l x ih => rw [tailRun_snoc, List.length_append, List.length_singleton]; split <;> omega
theorem last_snoc (l : List Int) (x : Int) : (l ++ [x]).getLast? = some x := by simp

/-- One level more, stuffed. -/
def addS (o : List Int) (x : Int) : List Int := if tailRun (o ++ [x]) = 5 then o ++ [x] ++ [1 - x] else o ++ [x]
def stuffed (l : List Int) : List Int := l.foldl addS []
theorem stuffed_nil : stuffed [] = [] := rfl
theorem stuffed_snoc (l : List Int) (x : Int) : stuffed (l ++ [x]) = addS (stuffed l) x := by simp [stuffed]
theorem addS_other (o : List Int) (x : Int) : tailRun (o ++ [x] ++ [1 - x]) = 1 := by
  rw [tailRun_snoc, last_snoc, if_neg (by intro h; injection h; omega)]
theorem stuffed_tail (l : List Int) : tailRun (stuffed l) ≤ 4 := by
  induction l using snoc_ind with
  | h0 => decide
  | h1 l x ih =>
    rw [stuffed_snoc, addS]
    by_cases h : tailRun (stuffed l ++ [x]) = 5
    · rw [if_pos h, addS_other]; omega
    · rw [if_neg h]
      rw [tailRun_snoc] at h ⊢
      split <;> rename_i hc
      · rw [if_pos hc] at h; omega
      · omega
theorem lv_other {x : Int} (h : x = 0 ∨ x = 1) : 1 - x = 0 ∨ 1 - x = 1 := by omega
theorem isLv_snoc {l : List Int} {x : Int} : isLv (l ++ [x]) ↔ isLv l ∧ (x = 0 ∨ x = 1) := by
  rw [isLv_append, isLv_cons]
  exact ⟨fun h => ⟨h.1, h.2.1⟩, fun h => ⟨h.1, h.2, isLv_nil⟩⟩
theorem stuffed_lv {l : List Int} (h : isLv l) : isLv (stuffed l) := by
  induction l using snoc_ind with
  | h0 => exact isLv_nil
  | h1 l x ih =>
    rw [isLv_snoc] at h
    rw [stuffed_snoc, addS]
    split
    · exact isLv_snoc.2 ⟨isLv_snoc.2 ⟨ih h.1, h.2⟩, lv_other h.2⟩
    · exact isLv_snoc.2 ⟨ih h.1, h.2⟩
theorem stuffed_length (l : List Int) : l.length ≤ (stuffed l).length ∧ 4 * ((stuffed l).length - l.length) + tailRun (stuffed l) ≤ l.length := by
  induction l using snoc_ind with
  | h0 => exact ⟨Nat.le_refl _, by decide⟩
  | h1 l x ih =>
    have ht := stuffed_tail l
    rw [stuffed_snoc, addS]
    by_cases h : tailRun (stuffed l ++ [x]) = 5
    · rw [if_pos h, addS_other]
      have : tailRun (stuffed l) = 4 := by
        rw [tailRun_snoc] at h
        split at h <;> omega
      simp only [List.length_append, List.length_singleton]
      omega
    · rw [if_neg h, tailRun_snoc]
      simp only [List.length_append, List.length_singleton]
      split <;> omega
theorem stuffed_most (l : List Int) : (stuffed l).length - l.length ≤ (l.length - 1) / 4 := by
  have h := stuffed_length l
  rcases snoc_cases l with rfl | ⟨t, x, rfl⟩
  · simp [stuffed_nil]
  · have : 1 ≤ tailRun (stuffed (t ++ [x])) := by
      rw [stuffed_snoc, addS]
      split
      · exact tailRun_pos _ _
      · exact tailRun_pos _ _
    omega
theorem stuffed_append (a b : List Int) : stuffed (a ++ b) = b.foldl addS (stuffed a) := by simp [stuffed]
theorem stuffed_prefix (a b : List Int) : stuffed a <+: stuffed (a ++ b) := by
  induction b using snoc_ind with
  | h0 => simp
  | h1 b x ih =>
    rw [← List.append_assoc, stuffed_snoc, addS]
    split
    · exact ih.trans ⟨[x] ++ [1 - x], by simp⟩
    · exact ih.trans ⟨[x], by simp⟩
theorem tailRun_other (l : List Int) : tailRun (l.map (1 - ·)) = tailRun l := by
  induction l using snoc_ind with
  | h0 => rfl
  | h1 l x ih =>
    rw [List.map_append, List.map_singleton, tailRun_snoc, tailRun_snoc, ih, List.getLast?_map]
    congr 1
    cases l.getLast? with
    | none => simp
    | some y =>
      simp only [Option.map_some, Option.some.injEq, eq_iff_iff]
      omega
theorem stuffed_other (l : List Int) : stuffed (l.map (1 - ·)) = (stuffed l).map (1 - ·) := by
  induction l using snoc_ind with
  | h0 => rfl
  | h1 l x ih =>
    rw [List.map_append, List.map_singleton, stuffed_snoc, stuffed_snoc, ih, addS, addS]
    have e : List.map (fun x => 1 - x) (stuffed l) ++ [1 - x] = List.map (fun x => 1 - x) (stuffed l ++ [x]) := by simp
    rw [e, tailRun_other]
    split <;> simp

/-- One level more, taken: the row so far, and what was taken. -/
def takeS (st : Except (Int × Int) (List Int × List Int)) (x : Int) : Except (Int × Int) (List Int × List Int) :=
  match st with
  | .error e => .error e
  | .ok (p, o) => if 5 ≤ tailRun p then (if p.getLast? = some x then .error (p.length, 17) else .ok (p ++ [x], o)) else .ok (p ++ [x], o ++ [x])
def takeSt (l : List Int) : Except (Int × Int) (List Int × List Int) := l.foldl takeS (.ok ([], []))
theorem takeSt_snoc (l : List Int) (x : Int) : takeSt (l ++ [x]) = takeS (takeSt l) x := by simp [takeSt]
theorem takeSt_ok (l : List Int) : ∀ p o, takeSt l = .ok (p, o) → p = l ∧ o.length ≤ l.length ∧ tailRun l ≤ 5 ∧ (isLv l → isLv o) := by
  induction l using snoc_ind with
  | h0 => intro p o h; simp [takeSt] at h; obtain ⟨rfl, rfl⟩ := h; simp [isLv_nil, tailRun_nil]
  | h1 l x ih =>
    intro p o h
    rw [takeSt_snoc] at h
    cases ht : takeSt l with
    | error e => rw [ht] at h; simp [takeS] at h
    | ok v =>
      obtain ⟨q, u⟩ := v
      obtain ⟨h1, h2, h3, h4⟩ := ih q u ht
      subst h1
      rw [ht] at h
      simp only [takeS] at h
      rw [List.length_append, List.length_singleton, tailRun_snoc]
      by_cases h5 : 5 ≤ tailRun q
      · rw [if_pos h5] at h
        by_cases hx : q.getLast? = some x
        · rw [if_pos hx] at h; simp at h
        · rw [if_neg hx] at h ⊢
          simp only [Except.ok.injEq, Prod.mk.injEq] at h
          obtain ⟨rfl, rfl⟩ := h
          exact ⟨rfl, by omega, by omega, fun hl => h4 (isLv_snoc.1 hl).1⟩
      · rw [if_neg h5] at h
        simp only [Except.ok.injEq, Prod.mk.injEq] at h
        obtain ⟨rfl, rfl⟩ := h
        refine ⟨rfl, by rw [List.length_append, List.length_singleton]; omega, ?_, fun hl => ?_⟩
        · split <;> omega
        · rw [isLv_snoc] at hl ⊢
          exact ⟨h4 hl.1, hl.2⟩
theorem takeSt_at (l : List Int) : ∀ a e, takeSt l = .error (a, e) → 0 ≤ a ∧ a < l.length ∧ e = 17 := by
  induction l using snoc_ind with
  | h0 => intro a e h; simp [takeSt] at h
  | h1 l x ih =>
    intro a e h
    rw [takeSt_snoc] at h
    rw [List.length_append, List.length_singleton]
    cases ht : takeSt l with
    | error v =>
      obtain ⟨b, f⟩ := v
      rw [ht] at h
      simp only [takeS, Except.error.injEq, Prod.mk.injEq] at h
      obtain ⟨rfl, rfl⟩ := h
      have := ih b f ht
      omega
    | ok v =>
      obtain ⟨q, u⟩ := v
      obtain ⟨rfl, _⟩ := takeSt_ok l q u ht
      rw [ht] at h
      simp only [takeS] at h
      split at h
      · split at h
        · simp only [Except.error.injEq, Prod.mk.injEq] at h
          obtain ⟨rfl, rfl⟩ := h
          omega
        · simp at h
      · simp at h
theorem takeSt_add {l : List Int} : takeSt (stuffed l) = .ok (stuffed l, l) := by
  induction l using snoc_ind with
  | h0 => rfl
  | h1 l x ih =>
    have ht := stuffed_tail l
    have h1 : takeSt (stuffed l ++ [x]) = .ok (stuffed l ++ [x], l ++ [x]) := by
      rw [takeSt_snoc, ih, takeS, if_neg (by omega)]
    rw [stuffed_snoc, addS]
    by_cases h : tailRun (stuffed l ++ [x]) = 5
    · rw [if_pos h, takeSt_snoc, h1, takeS, if_pos (by omega), last_snoc, if_neg (by intro h; injection h; omega)]
    · rw [if_neg h, h1]
theorem stuffed_take (m : List Int) (hm : isLv m) : ∀ o, takeSt m = .ok (m, o) → if 5 ≤ tailRun m then ∃ y, m.getLast? = some y ∧ stuffed o = m ++ [1 - y] else stuffed o = m := by
  induction m using snoc_ind with
  | h0 =>
    intro o h
    simp [takeSt] at h
    subst h
    simp [tailRun_nil, stuffed_nil]
  | h1 m x ih =>
    intro o h
    rw [isLv_snoc] at hm
    rw [takeSt_snoc] at h
    cases ht : takeSt m with
    | error e => rw [ht] at h; simp [takeS] at h
    | ok v =>
      obtain ⟨q, u⟩ := v
      obtain ⟨rfl, _, h5', _⟩ := takeSt_ok m q u ht
      have ihm := ih hm.1 u ht
      rw [ht] at h
      simp only [takeS] at h
      by_cases h5 : 5 ≤ tailRun q
      · rw [if_pos h5] at h ihm
        obtain ⟨y, hy, hs⟩ := ihm
        by_cases hx : q.getLast? = some x
        · rw [if_pos hx] at h; simp at h
        · rw [if_neg hx] at h
          simp only [Except.ok.injEq, Prod.mk.injEq, true_and] at h
          subst h
          rw [tailRun_snoc, if_neg hx, if_neg (by omega), hs]
          have hyl : y = 0 ∨ y = 1 := hm.1 y (List.mem_of_getLast? hy)
          have hne : y ≠ x := fun e => hx (by rw [hy, e])
          rw [show 1 - y = x by omega]
      · rw [if_neg h5] at h ihm
        simp only [Except.ok.injEq, Prod.mk.injEq, true_and] at h
        subst h
        have hle : tailRun (q ++ [x]) ≤ 5 := by rw [tailRun_snoc]; split <;> omega
        rw [stuffed_snoc, ihm, addS, last_snoc]
        by_cases he : tailRun (q ++ [x]) = 5
        · rw [if_pos (by omega), if_pos he]
          exact ⟨x, rfl, rfl⟩
        · rw [if_neg (by omega), if_neg he]
/-- What taking a whole row answers. -/
def takeR (l : List Int) : List Int × Int × Int :=
  match takeSt l with
  | .error (a, e) => ([], a, e)
  | .ok (_, o) => if 5 ≤ tailRun l then ([], l.length, 13) else (o, 0, 0)
theorem takeR_add (l : List Int) : takeR (stuffed l) = (l, 0, 0) := by
  have := stuffed_tail l
  unfold takeR
  rw [takeSt_add]
  simp only
  rw [if_neg (by omega)]
theorem takeR_ok {m a : List Int} {i : Int} (hm : isLv m) (h : takeR m = (a, i, 0)) : stuffed a = m ∧ i = 0 ∧ a.length ≤ m.length ∧ isLv a := by
  unfold takeR at h
  cases ht : takeSt m with
  | error v =>
    obtain ⟨b, e⟩ := v
    have := takeSt_at m b e ht
    rw [ht] at h
    simp only [Prod.mk.injEq] at h
    omega
  | ok v =>
    obtain ⟨q, u⟩ := v
    obtain ⟨rfl, h2, h3, h4⟩ := takeSt_ok m q u ht
    have hs := stuffed_take q hm u ht
    rw [ht] at h
    simp only at h
    by_cases h5 : 5 ≤ tailRun q
    · rw [if_pos h5] at h
      simp at h
    · rw [if_neg h5] at h hs
      simp only [Prod.mk.injEq] at h
      obtain ⟨rfl, rfl, _⟩ := h
      exact ⟨hs, rfl, h2, h4 hm⟩
theorem takeR_err {m a : List Int} {i e : Int} (h : takeR m = (a, i, e)) (he : e ≠ 0) : a = [] ∧ 0 ≤ i ∧ i ≤ m.length := by
  unfold takeR at h
  cases ht : takeSt m with
  | error v =>
    obtain ⟨b, f⟩ := v
    have := takeSt_at m b f ht
    rw [ht] at h
    simp only [Prod.mk.injEq] at h
    obtain ⟨rfl, rfl, rfl⟩ := h
    exact ⟨rfl, by omega, by omega⟩
  | ok v =>
    rw [ht] at h
    simp only at h
    split at h
    · simp only [Prod.mk.injEq] at h
      obtain ⟨rfl, rfl, rfl⟩ := h
      exact ⟨rfl, by omega, by omega⟩
    · simp only [Prod.mk.injEq] at h
      omega
theorem takeSt_app (a b : List Int) : ∀ o, takeSt (a ++ b) = .ok (a ++ b, o) → ∃ u, takeSt a = .ok (a, u) ∧ u <+: o := by
  induction b using snoc_ind with
  | h0 => intro o h; simp at h; exact ⟨o, h, List.prefix_refl _⟩
  | h1 b x ih =>
    intro o h
    rw [← List.append_assoc, takeSt_snoc] at h
    cases ht : takeSt (a ++ b) with
    | error e => rw [ht] at h; simp [takeS] at h
    | ok v =>
      obtain ⟨q, u⟩ := v
      obtain ⟨rfl, _⟩ := takeSt_ok _ q u ht
      obtain ⟨u', h1, h2⟩ := ih u ht
      refine ⟨u', h1, ?_⟩
      rw [ht] at h
      simp only [takeS] at h
      split at h
      · split at h
        · simp at h
        · simp only [Except.ok.injEq, Prod.mk.injEq, true_and] at h
          subst h
          exact h2
      · simp only [Except.ok.injEq, Prod.mk.injEq, true_and] at h
        subst h
        exact h2.trans ⟨[x], rfl⟩
end Go.Proofs.Ytakemodmdhglnaa.Pure
