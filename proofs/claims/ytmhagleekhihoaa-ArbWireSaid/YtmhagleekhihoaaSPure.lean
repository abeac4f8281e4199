/- Plain facts on rows of levels and on numbers: no program in sight. -/
import Derived.Laws.BitsAllLaws
import Derived.RowKit
namespace Go.AK
open Go.RowKit

/-- All are levels. -/
def isLv (l : List Int) : Prop := ∀ x ∈ l, x = 0 ∨ x = 1
theorem isLv_nil : isLv [] := fun x h => by simp at h
theorem isLv_append {a b : List Int} : isLv (a ++ b) ↔ isLv a ∧ isLv b := by
  constructor
  · intro h
    exact ⟨fun x hx => h x (List.mem_append_left _ hx), fun x hx => h x (List.mem_append_right _ hx)⟩
  · rintro ⟨ha, hb⟩ x hx
    rcases List.mem_append.1 hx with hx | hx
    · exact ha x hx
    · exact hb x hx
theorem isLv_cons {x : Int} {l : List Int} : isLv (x :: l) ↔ (x = 0 ∨ x = 1) ∧ isLv l := by
  constructor
  · intro h
    exact ⟨h x List.mem_cons_self, fun y hy => h y (List.mem_cons_of_mem _ hy)⟩
  · rintro ⟨hx, hl⟩ y hy
    rcases List.mem_cons.1 hy with rfl | hy
    · exact hx
    · exact hl y hy
theorem isLv_take {l : List Int} (h : isLv l) (n : Nat) : isLv (l.take n) := fun x hx => h x (List.mem_of_mem_take hx)
theorem isLv_drop {l : List Int} (h : isLv l) (n : Nat) : isLv (l.drop n) := fun x hx => h x (List.mem_of_mem_drop hx)
theorem isLv_replicate (n : Nat) {x : Int} (h : x = 0 ∨ x = 1) : isLv (List.replicate n x) := fun y hy => by
  rw [(List.mem_replicate.1 hy).2]; exact h
theorem isLv_get {l : List Int} (h : isLv l) (i : Nat) (hi : i < l.length) : l.getD i 0 = 0 ∨ l.getD i 0 = 1 := by
  have : l.getD i 0 = l[i] := by simp [List.getD_eq_getElem?_getD, List.getElem?_eq_getElem hi]
  rw [this]
  exact h _ (List.getElem_mem hi)
instance (l : List Int) : Decidable (isLv l) := inferInstanceAs (Decidable (∀ x ∈ l, x = 0 ∨ x = 1))

/-- The lowest levels of a number, the greatest one first. -/
def ofI : Int → Nat → List Int
  | _, 0 => []
  | n, w + 1 => ofI (n / 2) w ++ [n % 2]
theorem ofI_length (w : Nat) : ∀ n, (ofI n w).length = w := by
  induction w with
  | zero => intro n; rfl
  | succ w ih => intro n; simp [ofI, ih]
theorem ofI_lv (w : Nat) : ∀ n, isLv (ofI n w) := by
  induction w with
  | zero => intro n; exact isLv_nil
  | succ w ih =>
    intro n
    rw [ofI, isLv_append]
    exact ⟨ih _, fun x hx => by simp at hx; omega⟩
/-- The number of levels. -/
def valI (l : List Int) : Int := l.foldl (fun a x => 2 * a + x) 0
theorem valI_from (l : List Int) : ∀ a : Int, l.foldl (fun a x => 2 * a + x) a = a * 2 ^ l.length + valI l := by
  induction l with
  | nil => intro a; simp [valI]
  | cons x t ih =>
    intro a
    simp only [valI, List.foldl_cons, List.length_cons]
    rw [ih, ih (2 * 0 + x)]
    rw [Int.pow_succ]
    have : (2 * a + x) * 2 ^ t.length = a * (2 ^ t.length * 2) + x * 2 ^ t.length := by
      rw [Int.add_mul, Int.mul_comm 2 a, Int.mul_assoc, Int.mul_comm 2 (2 ^ t.length)]
    rw [this]
    have e2 : (2 * 0 + x) = x := by omega
    rw [e2]
    omega
theorem valI_append (a b : List Int) : valI (a ++ b) = valI a * 2 ^ b.length + valI b := by
  unfold valI
  rw [List.foldl_append]
  exact valI_from b _
theorem valI_snoc (l : List Int) (x : Int) : valI (l ++ [x]) = 2 * valI l + x := by
  rw [valI_append]
  simp [valI]
  omega
theorem valI_nil : valI [] = 0 := rfl
theorem valI_single (x : Int) : valI [x] = x := by simp [valI]
theorem snoc_cases (l : List Int) : l = [] ∨ ∃ t x, l = t ++ [x] := by
  rcases List.eq_nil_or_concat l with h | ⟨t, x, h⟩
  · exact .inl h
  · exact .inr ⟨t, x, by simpa using h⟩
theorem snoc_ind {P : List Int → Prop} (h0 : P []) (h1 : ∀ l x, P l → P (l ++ [x])) (l : List Int) : P l := by
  generalize hn : l.length = n
  induction n generalizing l with
  | zero => rw [List.eq_nil_of_length_eq_zero hn]; exact h0
  | succ n ih =>
    rcases snoc_cases l with rfl | ⟨t, x, rfl⟩
    · exact h0
    · exact h1 t x (ih t (by simpa using hn))
theorem valI_bounds {l : List Int} (h : isLv l) : 0 ≤ valI l ∧ valI l < 2 ^ l.length := by
  induction l using snoc_ind with
  | h0 => simp [valI]
  | h1 l x ih =>
    rw [isLv_append] at h
    have := ih h.1
    have hx := h.2 x (by simp)
    rw [valI_snoc, List.length_append, List.length_singleton, Int.pow_succ]
    omega
theorem ofI_valI {l : List Int} (h : isLv l) : ofI (valI l) l.length = l := by
  induction l using snoc_ind with
  | h0 => rfl
  | h1 l x ih =>
    rw [isLv_append] at h
    have hx := h.2 x (by simp)
    rw [valI_snoc, List.length_append, List.length_singleton, ofI]
    have e1 : (2 * valI l + x) / 2 = valI l := by omega
    have e2 : (2 * valI l + x) % 2 = x := by omega
    rw [e1, e2, ih h.1]
theorem ofI_append (b : Nat) : ∀ (n : Int) (a : Nat), ofI n (a + b) = ofI (n / 2 ^ b) a ++ ofI n b := by
  induction b with
  | zero => intro n a; simp [ofI]
  | succ b ih =>
    intro n a
    rw [show a + (b + 1) = (a + b) + 1 from rfl, ofI, ofI, ih]
    rw [Int.ediv_ediv_of_nonneg (by omega), Int.pow_succ, Int.mul_comm (2 ^ b) 2, List.append_assoc]
theorem pow_pos (w : Nat) : (0 : Int) < 2 ^ w := Int.pow_pos (by omega)
theorem valI_ofI (w : Nat) : ∀ n : Int, valI (ofI n w) = n % 2 ^ w := by
  induction w with
  | zero => intro n; simp [ofI, valI]
  | succ w ih =>
    intro n
    rw [ofI, valI_snoc, ih, Int.pow_succ]
    have hp := pow_pos w
    -- n = 2 (n/2) + n%2; n/2 = 2^w q + r
    have h1 := Int.mul_ediv_add_emod (n / 2) (2 ^ w)
    have h2 := Int.emod_nonneg (n / 2) (show (2 : Int) ^ w ≠ 0 by omega)
    have h3 := Int.emod_lt_of_pos (n / 2) hp
    generalize n / 2 / 2 ^ w = q at h1
    generalize hr : n / 2 % 2 ^ w = r at h1 h2 h3
    have hn : n = (2 ^ w * 2) * q + (2 * r + n % 2) := by
      have : n = 2 * (n / 2) + n % 2 := by omega
      rw [← h1] at this
      rw [Int.mul_assoc, Int.mul_comm 2 q, ← Int.mul_assoc, Int.mul_comm (2 ^ w * q) 2]
      omega
    conv => rhs; rw [hn]
    rw [Int.mul_add_emod_self_left]
    exact (Int.emod_eq_of_lt (a := 2 * r + n % 2) (by omega) (by omega)).symm
/-- Which level stands where. -/
theorem ofI_get (w : Nat) : ∀ (n : Int) (j : Nat), j < w → (ofI n w).getD j 0 = n / 2 ^ (w - 1 - j) % 2 := by
  induction w with
  | zero => intro n j h; omega
  | succ w ih =>
    intro n j h
    rw [ofI]
    by_cases hj : j < w
    · rw [List.getD_eq_getElem?_getD, List.getElem?_append_left (by rw [ofI_length]; exact hj), ← List.getD_eq_getElem?_getD, ih _ _ hj]
      rw [Int.ediv_ediv_of_nonneg (by omega), show w + 1 - 1 - j = (w - 1 - j) + 1 by omega, Int.pow_succ, Int.mul_comm (2 ^ _) 2]
    · have : j = w := by omega
      subst this
      rw [List.getD_eq_getElem?_getD, List.getElem?_append_right (by rw [ofI_length]; omega), ofI_length]
      simp
theorem ofI_zero (w : Nat) : ofI 0 w = List.replicate w 0 := by
  induction w with
  | zero => rfl
  | succ w ih => rw [ofI, show (0 : Int) / 2 = 0 from rfl, ih, show (0 : Int) % 2 = 0 from rfl, List.replicate_succ']
theorem ofI_mod (w : Nat) (n : Int) : ofI (n % 2 ^ w) w = ofI n w := by
  rw [← valI_ofI w n]
  have h := ofI_valI (ofI_lv w n)
  rwa [ofI_length] at h
theorem ofI_inj {w : Nat} {a b : Int} (ha : 0 ≤ a) (ha' : a < 2 ^ w) (hb : 0 ≤ b) (hb' : b < 2 ^ w) (h : ofI a w = ofI b w) : a = b := by
  have := congrArg valI h
  rw [valI_ofI, valI_ofI, Int.emod_eq_of_lt ha ha', Int.emod_eq_of_lt hb hb'] at this
  exact this
theorem list_ext {a b : List Int} (h : a.length = b.length) (hg : ∀ i, i < a.length → a.getD i 0 = b.getD i 0) : a = b := by
  refine List.ext_getElem h fun i h1 h2 => ?_
  have := hg i h1
  simpa [List.getD_eq_getElem?_getD, List.getElem?_eq_getElem h1, List.getElem?_eq_getElem h2] using this
theorem getD_set (l : List Int) (i j : Nat) (v : Int) (hi : i < l.length) : (l.set i v).getD j 0 = if i = j then v else l.getD j 0 := by
  rw [List.getD_eq_getElem?_getD, List.getElem?_set]
  by_cases h : i = j
  · subst h; simp [hi]
  · simp [h, List.getD_eq_getElem?_getD]
theorem wrap_in {x : Int} (h1 : -9223372036854775808 ≤ x) (h2 : x ≤ 9223372036854775807) : wrap64 x = x := by unfold wrap64; omega
end Go.AK
