import Derived.Test.YtmhagleekhihoaaSInts
import Derived.Test.YtmhagleekhihoaaAK21
namespace Go.AK
open Go Go.RowKit Go.Proofs
set_option linter.unusedVariables false
def lvl (l : List Fr) (i : Int) (k : Nat) : Option Int := (at_ l i).row[k]?
def hasZ (l : List Fr) (k : Nat) (left : List Int) : Bool := left.any fun i => lvl l i k == some 0
def wireAt (l : List Fr) (k : Nat) (left : List Int) : Int := if hasZ l k left = true then 0 else 1
def stayAt (l : List Fr) (k : Nat) (w : Int) (left : List Int) : List Int := left.filter fun i => lvl l i k == some w
/-- Who is left on the wire, level by level. -/
def leftFrom (l : List Fr) : Nat → Nat → List Int → List Int
  | 0, k, left => left
  | n + 1, k, left => if left.length > 1 then leftFrom l n (k + 1) (stayAt l k (wireAt l k left) left) else left
def leftL (l : List Fr) : List Int := leftFrom l 32 0 (iota l.length)
theorem Plc.stay {n : Nat} {l : List Fr} {k : Nat} {w : Int} {left : List Int} (h : Plc n left) : Plc n (stayAt l k w left) := fun x hx => h x (List.mem_filter.1 hx).1
theorem iota_succ (k : Nat) : iota (k + 1) = iota k ++ [(k : Int)] := by simp [iota, List.range_succ]
theorem wire_zero {l : List Fr} {k j : Nat} {left : List Int} {x : Int} (h : left[j]? = some x) (h0 : lvl l x k = some 0) : wireAt l k (left.take (j + 1)) = 0 := by
  unfold wireAt hasZ
  rw [List.take_add_one, h, if_pos]
  rw [List.any_append, Bool.or_eq_true]
  right; simp [h0]
theorem wire_same {l : List Fr} {k j : Nat} {left : List Int} {x : Int} (h : left[j]? = some x) (h0 : lvl l x k ≠ some 0) : wireAt l k (left.take (j + 1)) = wireAt l k (left.take j) := by
  unfold wireAt hasZ
  rw [List.take_add_one, h, List.any_append]
  simp [h0]
theorem stay_in {l : List Fr} {k j : Nat} {w : Int} {left : List Int} {x : Int} (h : left[j]? = some x) (h0 : lvl l x k = some w) : stayAt l k w (left.take (j + 1)) = stayAt l k w (left.take j) ++ [x] := by
  unfold stayAt
  rw [List.take_add_one, h, List.filter_append]
  simp [h0]
theorem stay_out {l : List Fr} {k j : Nat} {w : Int} {left : List Int} {x : Int} (h : left[j]? = some x) (h0 : lvl l x k ≠ some w) : stayAt l k w (left.take (j + 1)) = stayAt l k w (left.take j) := by
  unfold stayAt
  rw [List.take_add_one, h, List.filter_append]
  simp [h0]
theorem cmpI_neg {a b : Int} : cmpI a b < 0 ↔ a < b := by
  unfold cmpI
  split
  · omega
  · split <;> omega
theorem cmpI_flip (a b : Int) : cmpI a b = - cmpI b a := by
  unfold cmpI
  split <;> split <;> (try split) <;> omega
theorem cmpL_flip : ∀ L M : List Int, cmpL L M = - cmpL M L
  | [], [] => rfl
  | [], _ :: _ => rfl
  | _ :: _, [] => rfl
  | a :: L, b :: M => by
    unfold cmpL
    rw [cmpI_flip a b]
    by_cases h : cmpI b a = 0
    · rw [if_pos (by omega), if_pos h, cmpL_flip L M]
    · rw [if_neg (by omega), if_neg h]
theorem cmpL_cons {a b : Int} {L M : List Int} : cmpL (a :: L) (b :: M) < 0 ↔ a < b ∨ (a = b ∧ cmpL L M < 0) := by
  rw [show cmpL (a :: L) (b :: M) = if cmpI a b = 0 then cmpL L M else cmpI a b from rfl]
  split
  · rename_i h
    have := cmpI_zero.1 h
    constructor
    · intro h2; exact .inr ⟨this, h2⟩
    · rintro (h2 | ⟨_, h2⟩)
      · omega
      · exact h2
  · rename_i h
    rw [cmpI_neg]
    constructor
    · exact .inl
    · rintro (h2 | ⟨h2, _⟩)
      · exact h2
      · exact absurd (cmpI_zero.2 h2) h
theorem cmpL_trans : ∀ {L M N : List Int}, cmpL L M < 0 → cmpL M N < 0 → cmpL L N < 0
  | [], [], _, h, _ => by simp [cmpL] at h
  | [], _ :: _, [], _, h => by simp [cmpL] at h
  | [], _ :: _, _ :: _, _, _ => by simp [cmpL]
  | _ :: _, [], _, h, _ => by simp [cmpL] at h
  | _ :: _, _ :: _, [], _, h => by simp [cmpL] at h
  | a :: L, b :: M, c :: N, h, k => by
    rw [cmpL_cons] at h k ⊢
    rcases h with h | ⟨rfl, h⟩ <;> rcases k with k | ⟨rfl, k⟩
    · exact .inl (by omega)
    · exact .inl h
    · exact .inl k
    · exact .inr ⟨rfl, cmpL_trans h k⟩
theorem cmpL_at : ∀ (k : Nat) {L M : List Int} {a b : Int}, L.take k = M.take k → L[k]? = some a → M[k]? = some b → cmpL L M < 0 → a ≤ b
  | 0, x :: L, y :: M, a, b, _, ha, hb, h => by
    simp at ha hb; subst ha; subst hb
    rcases cmpL_cons.1 h with h | ⟨h, _⟩ <;> omega
  | k + 1, x :: L, y :: M, a, b, ht, ha, hb, h => by
    simp at ha hb ht
    rcases cmpL_cons.1 h with h | ⟨_, h⟩
    · omega
    · exact cmpL_at k ht.2 ha hb h
  | 0, [], _, a, b, _, ha, hb, h => by simp at ha
  | 0, _ :: _, [], a, b, _, ha, hb, h => by simp at hb
  | k + 1, [], _, a, b, _, ha, hb, h => by simp at ha
  | k + 1, _ :: _, [], a, b, _, ha, hb, h => by simp at hb
theorem placeL_take : ∀ (k : Nat) (M : List Int) (j : Int), placeL (M.take k) M j = -1
  | 0, M, j => by cases M <;> rfl
  | k + 1, [], j => rfl
  | k + 1, a :: M, j => by rw [List.take_succ_cons]; unfold placeL; rw [if_pos rfl]; exact placeL_take k M _
theorem row_far {F G : Fr} {k : Nat} (hn : F.row ≠ G.row) (h : F.row.take k = G.row.take k) : k < F.row.length ∧ k < G.row.length := by
  constructor
  · refine Nat.lt_of_not_le fun hk => hn ((@place_rows F G).1 ?_)
    rw [List.take_of_length_le hk] at h
    rw [h, placeL_take]; omega
  · refine Nat.lt_of_not_le fun hk => hn ((@place_rows G F).1 ?_).symm
    rw [List.take_of_length_le hk] at h
    rw [← h, placeL_take]; omega
theorem nodup_one {m : Int} : ∀ {L : List Int}, L.Nodup → m ∈ L → (∀ i ∈ L, i = m) → L = [m]
  | [], _, h, _ => by cases h
  | [x], _, _, h => by rw [h x (by simp)]
  | x :: y :: L, hn, _, h => by
    have h1 := h x (by simp)
    have h2 := h y (by simp)
    rw [h1, h2] at hn
    simp at hn
theorem leftFrom_least {l : List Fr} {m : Int} (hlt : ∀ i : Int, 0 ≤ i → i < l.length → i ≠ m → cmpL (at_ l m).row (at_ l i).row < 0) :
    ∀ (n k : Nat) (left : List Int), n + k = 32 → Plc l.length left → left.Nodup → m ∈ left → (∀ i ∈ left, (at_ l i).row.take k = (at_ l m).row.take k) → leftFrom l n k left = [m]
  | 0, k, left, hk, hp, hn, hm, ha => by
    refine nodup_one hn hm fun i hi => Decidable.byContradiction fun hne => ?_
    have h1 := hlt i (hp i hi).1 (hp i hi).2 hne
    have h2 := ha i hi
    have e1 := Fr.row_le (at_ l i)
    have e2 := Fr.row_le (at_ l m)
    rw [List.take_of_length_le (by omega), List.take_of_length_le (by omega)] at h2
    rw [h2, cmpL_zero.2 rfl] at h1
    omega
  | n + 1, k, left, hk, hp, hn, hm, ha => by
    unfold leftFrom
    split
    · rename_i hl
      have hfar : ∀ i ∈ left, i ≠ m → k < (at_ l i).row.length ∧ k < (at_ l m).row.length := fun i hi hne => by
        refine row_far (fun h => ?_) (ha i hi)
        have h1 := hlt i (hp i hi).1 (hp i hi).2 hne
        rw [h, cmpL_zero.2 rfl] at h1
        omega
      obtain ⟨i0, hi0, hne0⟩ : ∃ i ∈ left, i ≠ m := Decidable.byContradiction fun h => by
        have := nodup_one hn hm fun i hi => Decidable.byContradiction fun h2 => h ⟨i, hi, h2⟩
        rw [this] at hl
        simp at hl
      have hkm := (hfar i0 hi0 hne0).2
      have hlm : lvl l m k = some (at_ l m).row[k] := List.getElem?_eq_getElem hkm
      have hw : lvl l m k = some (wireAt l k left) := by
        rw [hlm]
        unfold wireAt
        have hv := row_lv (at_ l m) _ (List.getElem_mem hkm)
        split
        · rename_i hz
          obtain ⟨i, hi, h0⟩ := List.any_eq_true.1 hz
          have h0 := beq_iff_eq.1 h0
          by_cases e : i = m
          · rw [e, hlm] at h0; exact h0
          · have := cmpL_at k (ha i hi).symm hlm h0 (hlt i (hp i hi).1 (hp i hi).2 e)
            congr 1; omega
        · rename_i hz
          congr 1
          rcases hv with h | h
          · exfalso
            refine hz (List.any_eq_true.2 ⟨m, hm, ?_⟩)
            rw [hlm, h]; rfl
          · exact h
      refine leftFrom_least hlt n (k + 1) _ (by omega) hp.stay (hn.filter _) (List.mem_filter.2 ⟨hm, by rw [hw]; exact beq_self_eq_true _⟩) ?_
      intro i hi
      obtain ⟨hi, hs⟩ := List.mem_filter.1 hi
      have hs := beq_iff_eq.1 hs
      rw [← hw] at hs
      rw [List.take_add_one, List.take_add_one, ha i hi, show (at_ l i).row[k]? = (at_ l m).row[k]? from hs]
    · rename_i hl
      match left, hm, hl with
      | [x], hm, _ => rw [List.mem_singleton.1 hm]
      | x :: y :: L, _, hl => simp at hl
theorem iota_nodup (n : Nat) : (iota n).Nodup := by
  unfold iota
  refine List.nodup_iff_pairwise_ne.2 ((List.pairwise_map).2 ?_)
  refine (List.nodup_iff_pairwise_ne.1 List.nodup_range).imp fun h e => h (by omega)
theorem mem_iota {n : Nat} {i : Int} : i ∈ iota n ↔ 0 ≤ i ∧ i < n := by
  constructor
  · exact iota_plc n i
  · intro h
    refine List.mem_map.2 ⟨i.toNat, List.mem_range.2 (by omega), by omega⟩
/-- Who comes ahead of all others is left. -/
theorem left_least {l : List Fr} {m : Int} (h0 : 0 ≤ m) (h1 : m < l.length) (hlt : ∀ i : Int, 0 ≤ i → i < l.length → i ≠ m → cmpL (at_ l m).row (at_ l i).row < 0) : leftL l = [m] :=
  leftFrom_least hlt 32 0 _ rfl (iota_plc _) (iota_nodup _) (mem_iota.2 ⟨h0, h1⟩) fun i _ => by simp
section ins
variable {cf : Int → Int → Int} {S : Int → Prop} (htr : ∀ i j k, cf i j < 0 → cf j k < 0 → cf i k < 0) (htot : ∀ i j, S i → S j → i ≠ j → ¬ cf i j < 0 → cf j i < 0)
theorem getD_mid (A : List Int) (x : Int) (B : List Int) : (A ++ x :: B).getD A.length 0 = x := by
  rw [List.getD_eq_getElem?_getD, List.getElem?_append_right (Nat.le_refl _), Nat.sub_self]; rfl
theorem swap_mid (A : List Int) (a x : Int) (B : List Int) : swapAt (A ++ a :: x :: B) A.length = A ++ x :: a :: B := by
  unfold swapAt
  rw [getD_mid, show A ++ a :: x :: B = (A ++ [a]) ++ x :: B from by simp, show A.length + 1 = (A ++ [a]).length from by simp, getD_mid]
  rw [List.set_append_right _ _ (Nat.le_refl _), Nat.sub_self, List.append_assoc, List.set_append_right _ _ (Nat.le_refl _), Nat.sub_self]
  rfl
include htr htot in
theorem goA_sorted : ∀ (j : Nat) (A : List Int) (x : Int) (B : List Int), A.length = j → A.Pairwise (fun a b => cf a b < 0) → (∀ a ∈ A, S a ∧ a ≠ x) → S x →
    ∃ C D, A = C ++ D ∧ goA cf j (A ++ x :: B) = C ++ x :: (D ++ B) ∧ (C ++ x :: D).Pairwise (fun a b => cf a b < 0)
  | 0, A, x, B, hl, hs, ha, hx => by
    obtain rfl := List.length_eq_zero_iff.1 hl
    exact ⟨[], [], rfl, rfl, by simp⟩
  | j + 1, A, x, B, hl, hs, ha, hx => by
    obtain ⟨A', a, rfl⟩ : ∃ A' a, A = A' ++ [a] := ⟨A.dropLast, A.getLast (by intro h; rw [h] at hl; cases hl), (List.dropLast_concat_getLast _).symm⟩
    have hl' : A'.length = j := by simpa using hl
    unfold goA
    have e1 : (A' ++ [a] ++ x :: B).getD (j + 1) 0 = x := by rw [← hl]; exact getD_mid _ _ _
    have e2 : (A' ++ [a] ++ x :: B).getD j 0 = a := by rw [← hl', List.append_assoc]; exact getD_mid _ _ _
    have e3 : swapAt (A' ++ [a] ++ x :: B) j = A' ++ x :: a :: B := by rw [← hl', List.append_assoc]; exact swap_mid _ _ _ _
    rw [e1, e2, e3]
    have hs1 := List.pairwise_append.1 hs
    split
    · rename_i hxa
      obtain ⟨C, D, rfl, hg, hp⟩ := goA_sorted j A' x (a :: B) hl' hs1.1 (fun b hb => ha b (by simp [hb])) hx
      refine ⟨C, D ++ [a], by simp, by rw [hg]; simp, ?_⟩
      rw [show C ++ x :: (D ++ [a]) = (C ++ x :: D) ++ [a] from by simp]
      refine List.pairwise_append.2 ⟨hp, by simp, fun u hu v hv => ?_⟩
      rw [List.mem_singleton.1 hv]
      rcases List.mem_append.1 hu with h | h
      · exact hs1.2.2 u (by simp [h]) a (by simp)
      · rcases List.mem_cons.1 h with rfl | h
        · exact hxa
        · exact hs1.2.2 u (by simp [h]) a (by simp)
    · rename_i hxa
      have hax : cf a x < 0 := htot x a hx (ha a (by simp)).1 (fun h => (ha a (by simp)).2 h.symm) hxa
      refine ⟨A' ++ [a], [], by simp, by simp, ?_⟩
      refine List.pairwise_append.2 ⟨hs, by simp, fun u hu v hv => ?_⟩
      rw [List.mem_singleton.1 hv]
      rcases List.mem_append.1 hu with h | h
      · exact htr _ _ _ (hs1.2.2 u h a (by simp)) hax
      · rw [List.mem_singleton.1 h]; exact hax
include htr htot in
theorem insFrom_sorted : ∀ (B A : List Int), A.Pairwise (fun a b => cf a b < 0) → (A ++ B).Nodup → (∀ a ∈ A ++ B, S a) →
    (insFrom cf B.length A.length (A ++ B)).Perm (A ++ B) ∧ (insFrom cf B.length A.length (A ++ B)).Pairwise (fun a b => cf a b < 0)
  | [], A, hs, hn, hS => by simp only [List.append_nil, List.length_nil, insFrom]; exact ⟨.refl _, hs⟩
  | x :: B, A, hs, hn, hS => by
    rw [List.length_cons, insFrom]
    have hxA : ∀ a ∈ A, S a ∧ a ≠ x := fun a ha => ⟨hS a (by simp [ha]), fun e => by
      have := (List.nodup_append.1 hn).2.2 a ha x (by simp)
      exact this e⟩
    obtain ⟨C, D, rfl, hg, hp⟩ := goA_sorted htr htot A.length A x B rfl hs hxA (hS x (by simp))
    rw [hg]
    have hperm : (C ++ x :: (D ++ B)).Perm (C ++ D ++ x :: B) := by
      rw [List.append_assoc]
      exact List.Perm.append_left C List.perm_middle.symm
    have e : C ++ x :: (D ++ B) = (C ++ x :: D) ++ B := by simp
    rw [e] at hperm ⊢
    have := insFrom_sorted B (C ++ x :: D) hp (hperm.nodup_iff.2 hn) (fun a ha => hS a (hperm.mem_iff.1 ha))
    rw [show (C ++ D).length + 1 = (C ++ x :: D).length from by simp; omega]
    exact ⟨this.1.trans hperm, this.2⟩
end ins
/-- Frames that may begin at once. -/
def AllGo (l : List Fr) : Prop := (∀ F ∈ l, F.may) ∧ ∀ i k : Int, 0 ≤ i → i < l.length → 0 ≤ k → k < l.length → i ≠ k → (at_ l i).row ≠ (at_ l k).row
theorem at_mem {l : List Fr} {i : Int} (h0 : 0 ≤ i) (h : i < l.length) : at_ l i ∈ l := by
  obtain ⟨n, rfl⟩ := Int.eq_ofNat_of_zero_le h0
  rw [at_get l n (by omega)]
  exact List.getElem_mem _
theorem ordI_neg {l : List Fr} (hm : ∀ F ∈ l, F.may) {i k : Int} (h0 : 0 ≤ i) (h1 : i < l.length) (h2 : 0 ≤ k) (h3 : k < l.length) : ordI l i k < 0 ↔ cmpL (at_ l i).row (at_ l k).row < 0 := by
  have hi := hm _ (at_mem h0 h1)
  have hk := hm _ (at_mem h2 h3)
  have hl : ∀ F G : Fr, F.may → G.may → (F.less G = true ↔ cmpL F.row G.row < 0) := fun F G hF hG => by
    unfold Fr.less frcmp Fr.rw
    rw [if_pos hF, if_pos hG, decide_eq_true ⟨hF, hG⟩, Bool.true_and, decide_eq_true_eq]
  unfold ordI
  rw [← hl _ _ hi hk]
  split
  · rename_i h; simp [h]
  · rename_i h
    split <;> simp [h]
theorem ordI_less {l : List Fr} {i k : Int} : ordI l i k < 0 ↔ (at_ l i).less (at_ l k) = true := by
  unfold ordI
  split
  · rename_i h; simp [h]
  · rename_i h
    split <;> simp [h]
theorem less_trans {F G H : Fr} (h : F.less G = true) (k : G.less H = true) : F.less H = true := by
  unfold Fr.less frcmp at *
  simp only [Bool.and_eq_true, decide_eq_true_eq] at *
  exact ⟨⟨h.1.1, k.1.2⟩, cmpL_trans h.2 k.2⟩
theorem ordI_trans {l : List Fr} {i j k : Int} (h : ordI l i j < 0) (h2 : ordI l j k < 0) : ordI l i k < 0 := ordI_less.2 (less_trans (ordI_less.1 h) (ordI_less.1 h2))
theorem ordL_good {l : List Fr} (h : AllGo l) : (ordL l).Perm (iota l.length) ∧ (ordL l).Pairwise fun i k => cmpL (at_ l i).row (at_ l k).row < 0 := by
  unfold ordL
  cases hn : l.length with
  | zero => exact ⟨.refl _, .nil⟩
  | succ n =>
    have hio : iota (n + 1) = [0] ++ (List.range n).map (fun (i : Nat) => ((i + 1 : Nat) : Int)) := by
      unfold iota
      rw [List.range_succ_eq_map]
      simp [Function.comp_def]
    have h0 : (0 : Int) < l.length := by omega
    have hS : ∀ a ∈ iota (n + 1), 0 ≤ a ∧ a < l.length := fun a ha => by have := mem_iota.1 ha; omega
    have := insFrom_sorted (cf := ordI l) (S := fun i => 0 ≤ i ∧ i < l.length) (fun i j k => ordI_trans) (fun i k hi hk hne hnot => by
      rw [ordI_neg h.1 hk.1 hk.2 hi.1 hi.2]
      rw [ordI_neg h.1 hi.1 hi.2 hk.1 hk.2] at hnot
      rw [cmpL_flip]
      have := h.2 i k hi.1 hi.2 hk.1 hk.2 hne
      have : cmpL (at_ l i).row (at_ l k).row ≠ 0 := fun e => this (cmpL_zero.1 e)
      omega) ((List.range n).map (fun (i : Nat) => ((i + 1 : Nat) : Int))) [0] (by simp) (by rw [← hio]; exact iota_nodup _) (by rw [← hio]; exact hS)
    rw [← hio, List.length_map, List.length_range] at this
    refine ⟨this.1, this.2.imp_of_mem fun {i k} hi hk hlt => ?_⟩
    have hi := hS i (this.1.mem_iff.1 hi)
    have hk := hS k (this.1.mem_iff.1 hk)
    exact (ordI_neg h.1 hi.1 hi.2 hk.1 hk.2).1 hlt
end Go.AK
