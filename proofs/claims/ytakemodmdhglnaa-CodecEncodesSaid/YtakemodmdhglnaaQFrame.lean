/- Frames: whether one may be, its levels of arbitration, ahead of its sum, and in all, as the program and the document tell them. -/
import Derived.Test.YtakemodmdhglnaaQFrameS
import Derived.Test.YtakemodmdhglnaaQRef02B
import Derived.Test.YtakemodmdhglnaaPAx13
import Derived.Test.YtakemodmdhglnaaPAx22
import Derived.Test.YtakemodmdhglnaaPAx20
namespace Go.Proofs.Ytakemodmdhglnaa.Pure
open Go.RowKit Go.Proofs.Ytakemodmdhglnaa.PA Go.Proofs.YtakemodmdhglnaaW.PrintWords Go.Proofs.YtakemodmdhglnaaW.PrintLast Go.Proofs.YtakemodmdhglnaaW.PrintMore

/-- They are bytes. -/
def Fr.isB (F : Fr) : Prop := ∀ x ∈ F.d, 0 ≤ x ∧ x < 256
theorem u8_of {x : Int} (h : (Lit.int .u8 x).wf = true) : 0 ≤ x ∧ x < 256 := by
  have := h
  simp [Lit.wf, IntKind.min, IntKind.max, IntKind.bits, IntKind.signed] at this
  omega
theorem isB_of {F : Fr} (h0 : (Lit.int .u8 F.b0).wf = true) (h1 : (Lit.int .u8 F.b1).wf = true) (h2 : (Lit.int .u8 F.b2).wf = true) (h3 : (Lit.int .u8 F.b3).wf = true) (h4 : (Lit.int .u8 F.b4).wf = true) (h5 : (Lit.int .u8 F.b5).wf = true) (h6 : (Lit.int .u8 F.b6).wf = true) (h7 : (Lit.int .u8 F.b7).wf = true) : F.isB := by
  intro x hx
  simp only [Fr.d, List.mem_cons, List.not_mem_nil, or_false] at hx
  rcases hx with rfl | rfl | rfl | rfl | rfl | rfl | rfl | rfl
  all_goals (apply u8_of; assumption)
/-- From where on they must be 0. -/
def Fr.out (F : Fr) : Nat := if F.rtr = true then 0 else F.len.toNat
/-- It may be. -/
def Fr.may (F : Fr) : Prop := 0 ≤ F.id ∧ F.id ≤ (if F.ext = true then 536870911 else 2047) ∧ 0 ≤ F.len ∧ F.len ≤ 8 ∧ ∀ x ∈ F.d.drop F.out, x = 0
instance (F : Fr) : Decidable F.may := by unfold Fr.may; infer_instance
theorem fcheck_eq (F : Fr) (hb : F.isB) : frame_Check.f F.id F.ext F.rtr F.len F.b0 F.b1 F.b2 F.b3 F.b4 F.b5 F.b6 F.b7 = some (if F.may then 0 else 14) := by
  unfold frame_Check.f
  by_cases c : F.id < 0 ∨ F.id > (if F.ext = true then 536870911 else 2047) ∨ F.len < 0 ∨ F.len > 8
  · rw [if_pos c, if_neg (fun e => by obtain ⟨e1, e2, e3, e4, _⟩ := e; omega)]
  rw [if_neg c]
  have hall : ([F.b0, F.b1, F.b2, F.b3, F.b4, F.b5, F.b6, F.b7].drop (if F.rtr = true then 0 else F.len.toNat)).all (fun x => decide (x ≤ 0)) = true ↔ ∀ x ∈ F.d.drop F.out, x = 0 := by
    rw [List.all_eq_true]
    constructor
    · intro h x hx
      have h1 := of_decide_eq_true (h x hx)
      have h2 := hb x (List.mem_of_mem_drop hx)
      omega
    · intro h x hx
      exact decide_eq_true (by rw [h x hx]; omega)
  by_cases e : ∀ x ∈ F.d.drop F.out, x = 0
  · rw [if_pos (hall.mpr e), if_pos ⟨by omega, by omega, by omega, by omega, e⟩]
  · rw [if_neg (fun z => e (hall.mp z)), if_neg (fun z => e z.2.2.2.2)]
theorem refCheck3_l0 (F : Fr) (h0 : 0 ≤ F.len) (n : Nat) : ∀ (k i : Nat), 8 - i = n → i ≤ 8 → n < k →
    magnetoref03_Check.l0 k (i : Int) F.id F.ext F.rtr F.len F.b0 F.b1 F.b2 F.b3 F.b4 F.b5 F.b6 F.b7 = some (if ∀ x ∈ F.d.drop (max i F.out), x = 0 then 0 else 14) := by
  induction n with
  | zero =>
    intro k i hd hi hk
    obtain ⟨k, rfl⟩ : ∃ m, k = m + 1 := ⟨k - 1, by omega⟩
    simp only [magnetoref03_Check.l0]
    rw [if_neg (by omega), List.drop_eq_nil_of_le (by rw [Fr.d_length]; omega), if_pos (by simp)]
  | succ n ih =>
    intro k i hd hi hk
    obtain ⟨k, rfl⟩ : ∃ m, k = m + 1 := ⟨k - 1, by omega⟩
    have hi' : i < F.d.length := by rw [Fr.d_length]; omega
    have hr : rd ([F.b0, F.b1, F.b2, F.b3, F.b4, F.b5, F.b6, F.b7] : List Int) (i : Int) = F.d[i] := rd_at F.d i hi'
    simp only [magnetoref03_Check.l0]
    rw [if_pos (by omega), if_pos (by omega), hr, wrap_in (by omega) (by omega), show (i : Int) + 1 = ((i + 1 : Nat) : Int) from by omega, ih k (i + 1) (by omega) (by omega) (by omega)]
    by_cases hm : i < F.out
    · rw [Nat.max_eq_right (Nat.le_of_lt hm), Nat.max_eq_right (by omega : i + 1 ≤ F.out)]
      have hrt : ¬ F.rtr = true := by
        intro e
        unfold Fr.out at hm
        rw [if_pos e] at hm
        omega
      have hlt : (i : Int) < F.len := by
        unfold Fr.out at hm
        rw [if_neg hrt] at hm
        omega
      rw [if_neg hrt, if_neg (c := (i : Int) ≥ F.len) (by omega)]
      split <;> rfl
    · rw [Nat.max_eq_left (by omega), Nat.max_eq_left (by omega), List.drop_eq_getElem_cons hi']
      by_cases c : F.d[i] = 0
      · rw [if_pos c, c]
        simp
      · rw [if_neg c, if_neg (c := ∀ x ∈ F.d[i] :: _, x = 0) (fun z => c (z _ (List.mem_cons_self ..)))]
        by_cases hrt : F.rtr = true
        · rw [if_pos hrt]
        · rw [if_neg hrt, if_pos]
          unfold Fr.out at hm
          rw [if_neg hrt] at hm
          omega
theorem refCheck3_eq (F : Fr) {k : Nat} (hk : 12 ≤ k) : magnetoref03_Check.f k F.id F.ext F.rtr F.len F.b0 F.b1 F.b2 F.b3 F.b4 F.b5 F.b6 F.b7 = some (if F.may then 0 else 14) := by
  obtain ⟨k, rfl⟩ : ∃ m, k = m + 2 := ⟨k - 2, by omega⟩
  have h1 : magnetoref03_Check.j1 (k + 1) true F.id F.ext F.rtr F.len F.b0 F.b1 F.b2 F.b3 F.b4 F.b5 F.b6 F.b7 = some 14 := by simp only [magnetoref03_Check.j1, if_true]
  have hj : ∀ m : Int, m = (if F.ext = true then 536870911 else 2047) → magnetoref03_Check.j0 (k + 2) m F.id F.ext F.rtr F.len F.b0 F.b1 F.b2 F.b3 F.b4 F.b5 F.b6 F.b7 = some (if F.may then 0 else 14) := by
    intro m hm
    simp only [magnetoref03_Check.j0]
    by_cases c0 : F.id < 0
    · rw [if_pos c0, h1, if_neg (fun e => by have := e.1; omega)]
    rw [if_neg c0]
    by_cases c1 : F.id > m
    · rw [if_pos c1, h1, if_neg (fun e => by have := e.2.1; omega)]
    rw [if_neg c1]
    by_cases c2 : F.len < 0
    · rw [if_pos c2, h1, if_neg (fun e => by have := e.2.2.1; omega)]
    rw [if_neg c2]
    by_cases c3 : F.len > 8
    · rw [decide_eq_true c3, h1, if_neg (fun e => by have := e.2.2.2.1; omega)]
    rw [decide_eq_false c3]
    simp only [magnetoref03_Check.j1]
    rw [if_neg (by decide)]
    have := refCheck3_l0 F (by omega) 8 k 0 (by omega) (by omega) (by omega)
    rw [show ((0 : Nat) : Int) = 0 from rfl, Nat.max_eq_right (by omega)] at this
    rw [this]
    by_cases e : ∀ x ∈ F.d.drop F.out, x = 0
    · rw [if_pos e, if_pos ⟨by omega, by omega, by omega, by omega, e⟩]
    · rw [if_neg e, if_neg (fun z => e z.2.2.2.2)]
  unfold magnetoref03_Check.f
  by_cases c : F.ext = true
  · rw [if_pos c]
    exact hj _ (by rw [if_pos c])
  · rw [if_neg c]
    exact hj _ (by rw [if_neg c])
/-- A level of a bool. -/
def lvB (b : Bool) : Int := if b = true then 1 else 0
theorem lvB_lv (b : Bool) : lvB b = 0 ∨ lvB b = 1 := by cases b <;> simp [lvB]
/-- The levels of arbitration. -/
def Fr.arb (F : Fr) : List Int := if F.ext = true then ofI (F.id / 262144) 11 ++ [1, 1] ++ ofI F.id 18 ++ [lvB F.rtr] else ofI F.id 11 ++ [lvB F.rtr, 0]
theorem Fr.arb_length (F : Fr) : F.arb.length = if F.ext = true then 32 else 13 := by
  unfold Fr.arb
  split <;> simp [ofI_length]
theorem Fr.arb_lv (F : Fr) : isLv F.arb := by
  unfold Fr.arb
  have := lvB_lv F.rtr
  split
  · refine isLv_append.mpr ⟨isLv_append.mpr ⟨isLv_append.mpr ⟨ofI_lv _ _, fun x hx => ?_⟩, ofI_lv _ _⟩, fun x hx => ?_⟩
    · simp at hx
      omega
    · simp at hx
      rw [hx]
      exact this
  · refine isLv_append.mpr ⟨ofI_lv _ _, fun x hx => ?_⟩
    simp at hx
    rcases hx with rfl | rfl
    · exact this
    · exact .inl rfl
theorem level_eq (b : Bool) : frame_level.f b = some (lvB b) := by
  unfold frame_level.f lvB
  split <;> rfl
theorem flag_eq (b : Bool) : magnetoref03_flag.f b = some (lvB b) := by
  unfold magnetoref03_flag.f lvB
  split <;> rfl
theorem Fr.id_small {F : Fr} (h : F.may) : 0 ≤ F.id ∧ F.id ≤ 536870911 := by
  obtain ⟨h0, h1, _⟩ := h
  split at h1 <;> omega
theorem concat_eq (ls : List (List Int)) (h : ls.flatten.length ≤ 1000000) : slices_Concat_int_int.f ls = some ls.flatten := by
  unfold slices_Concat_int_int.f
  rw [if_pos h]
theorem farb_yes (F : Fr) (hb : F.isB) (hm : F.may) {k : Nat} (hk : 30 ≤ k) : frame_Arb.f k F.id F.ext F.rtr F.len F.b0 F.b1 F.b2 F.b3 F.b4 F.b5 F.b6 F.b7 = some (F.arb, 0) := by
  have hi := Fr.id_small hm
  have e11 : bits_Of.f k (IntKind.u64.wrap F.id) 11 = some (ofI F.id 11, 0) := by
    rw [u64_wrap (by omega) (by omega)]
    exact of_yes F.id 11 (by omega) (by omega) (by omega) (by omega)
  have e18 : bits_Of.f k (IntKind.u64.wrap F.id) 18 = some (ofI F.id 18, 0) := by
    rw [u64_wrap (by omega) (by omega)]
    exact of_yes F.id 18 (by omega) (by omega) (by omega) (by omega)
  have eh : bits_Of.f k (IntKind.u64.wrap F.id / 262144) 11 = some (ofI (F.id / 262144) 11, 0) := by
    rw [u64_wrap (by omega) (by omega)]
    exact of_yes (F.id / 262144) 11 (by omega) (by omega) (by omega) (by omega)
  unfold frame_Arb.f Fr.arb
  rw [fcheck_eq F hb, if_pos hm, level_eq]
  simp only [Option.bind_some, if_true]
  by_cases c : F.ext = true
  · rw [if_pos c, if_pos c, eh]
    simp only [Option.bind_some, if_true]
    rw [e18]
    (try simp only [Option.bind_some])
    rw [concat_eq _ (by simp [ofI_length])]
    simp
  · rw [if_neg c, if_neg c, e11]
    (try simp only [Option.bind_some])
    rw [if_pos (by simp [ofI_length])]
theorem farb_no (F : Fr) (hb : F.isB) (hm : ¬ F.may) (k : Nat) : frame_Arb.f k F.id F.ext F.rtr F.len F.b0 F.b1 F.b2 F.b3 F.b4 F.b5 F.b6 F.b7 = some ([], 14) := by
  unfold frame_Arb.f
  rw [fcheck_eq F hb, if_neg hm]
  (try simp only [Option.bind_some])
  rw [if_neg (by decide)]
theorem digits3_eq (w : Nat) : ∀ (n : Int) (k : Nat), 0 ≤ n → n < 4611686018427387904 → w ≤ 100 → w < k → magnetoref03_digits.f k n (w : Int) = some (ofI n w) := by
  induction w with
  | zero =>
    intro n k h0 h1 hw hk
    obtain ⟨k, rfl⟩ : ∃ m, k = m + 1 := ⟨k - 1, by omega⟩
    simp only [magnetoref03_digits.f]
    rw [if_pos (by rfl)]
    rfl
  | succ w ih =>
    intro n k h0 h1 hw hk
    obtain ⟨k, rfl⟩ : ∃ m, k = m + 1 := ⟨k - 1, by omega⟩
    simp only [magnetoref03_digits.f]
    rw [if_neg (by omega), Int.tdiv_eq_ediv_of_nonneg h0, Int.tmod_eq_emod_of_nonneg h0, wrap_in (by omega) (by omega), wrap_in (by omega) (by omega), show ((w + 1 : Nat) : Int) - 1 = (w : Int) from by omega, ih (n / 2) k (by omega) (by omega) (by omega) (by omega)]
    (try simp only [Option.bind_some])
    rw [if_pos (by rw [ofI_length]; omega), ofI]
theorem digits4_eq (w : Nat) : ∀ (n : Int) (k : Nat), 0 ≤ n → n < 4611686018427387904 → w ≤ 100 → w < k → magnetoref04_digits.f k n (w : Int) = some (ofI n w) := by
  induction w with
  | zero =>
    intro n k h0 h1 hw hk
    obtain ⟨k, rfl⟩ : ∃ m, k = m + 1 := ⟨k - 1, by omega⟩
    simp only [magnetoref04_digits.f]
    rw [if_pos (by rfl)]
    rfl
  | succ w ih =>
    intro n k h0 h1 hw hk
    obtain ⟨k, rfl⟩ : ∃ m, k = m + 1 := ⟨k - 1, by omega⟩
    simp only [magnetoref04_digits.f]
    rw [if_neg (by omega), Int.tdiv_eq_ediv_of_nonneg h0, Int.tmod_eq_emod_of_nonneg h0, wrap_in (by omega) (by omega), wrap_in (by omega) (by omega), show ((w + 1 : Nat) : Int) - 1 = (w : Int) from by omega, ih (n / 2) k (by omega) (by omega) (by omega) (by omega)]
    (try simp only [Option.bind_some])
    rw [if_pos (by rw [ofI_length]; omega), ofI]
theorem refArb_eq (F : Fr) (hm : F.may) {k : Nat} (hk : 30 ≤ k) : magnetoref03_Arb.f k F.id F.ext F.rtr F.len F.b0 F.b1 F.b2 F.b3 F.b4 F.b5 F.b6 F.b7 = some F.arb := by
  have hi := Fr.id_small hm
  unfold magnetoref03_Arb.f Fr.arb
  rw [flag_eq]
  have e11 : magnetoref03_digits.f k F.id 11 = some (ofI F.id 11) := digits3_eq 11 F.id k (by omega) (by omega) (by omega) (by omega)
  have eh : magnetoref03_digits.f k (wrap64 (Int.tdiv F.id 262144)) 11 = some (ofI (F.id / 262144) 11) := by
    rw [Int.tdiv_eq_ediv_of_nonneg (by omega), wrap_in (by omega) (by omega)]
    exact digits3_eq 11 _ k (by omega) (by omega) (by omega) (by omega)
  have el : magnetoref03_digits.f k (Int.tmod F.id 262144) 18 = some (ofI F.id 18) := by
    rw [Int.tmod_eq_emod_of_nonneg (by omega), ← ofI_mod 18 F.id, show (2 : Int) ^ 18 = 262144 from by decide]
    exact digits3_eq 18 _ k (by omega) (by omega) (by omega) (by omega)
  by_cases c : F.ext = true
  · rw [if_pos c, if_pos c, eh]
    (try simp only [Option.bind_some])
    rw [if_pos (by simp [ofI_length])]
    (try simp only [Option.bind_some])
    rw [el]
    (try simp only [Option.bind_some])
    rw [if_pos (by simp [ofI_length])]
    (try simp only [Option.bind_some])
    rw [if_pos (by simp [ofI_length])]
  · rw [if_neg c, if_neg c, e11]
    (try simp only [Option.bind_some])
    rw [if_pos (by simp [ofI_length])]
/-- The levels of the data. -/
def Fr.dat (F : Fr) : List Int := if F.rtr = true then [] else (F.d.take F.len.toNat).flatMap fun x => ofI x 8
theorem bytes_length (l : List Int) : (l.flatMap fun x => ofI x 8).length = 8 * l.length := by
  induction l with
  | nil => rfl
  | cons x t ih => rw [List.flatMap_cons, List.length_append, ih, ofI_length, List.length_cons]; omega
theorem bytes_lv (l : List Int) : isLv (l.flatMap fun x => ofI x 8) := by
  induction l with
  | nil => exact isLv_nil
  | cons x t ih => rw [List.flatMap_cons]; exact isLv_append.mpr ⟨ofI_lv _ _, ih⟩
theorem Fr.dat_lv (F : Fr) : isLv F.dat := by
  unfold Fr.dat
  split
  · exact isLv_nil
  · exact bytes_lv _
theorem Fr.dat_length {F : Fr} (hm : F.may) : (F.dat.length : Int) = if F.rtr = true then 0 else 8 * F.len := by
  obtain ⟨_, _, h0, h8, _⟩ := hm
  unfold Fr.dat
  split
  · rfl
  · rw [bytes_length, List.length_take, Fr.d_length]
    omega
/-- The levels ahead of the sum. -/
def Fr.bits (F : Fr) : List Int := [0] ++ F.arb ++ ofI F.len (if F.ext = true then 6 else 5) ++ F.dat
theorem Fr.bits_lv (F : Fr) : isLv F.bits := by
  unfold Fr.bits
  exact isLv_append.mpr ⟨isLv_append.mpr ⟨isLv_append.mpr ⟨fun x hx => .inl (by simpa using hx), F.arb_lv⟩, ofI_lv _ _⟩, F.dat_lv⟩
theorem Fr.bits_length {F : Fr} (hm : F.may) : (F.bits.length : Int) = (if F.ext = true then 39 else 19) + (if F.rtr = true then 0 else 8 * F.len) := by
  unfold Fr.bits
  rw [List.length_append, List.length_append, List.length_append, F.arb_length, ofI_length]
  have := F.dat_length hm
  split <;> simp <;> omega
theorem Fr.bits_small {F : Fr} (hm : F.may) : F.bits.length ≤ 103 := by
  have h1 := F.bits_length hm
  obtain ⟨_, _, h0, h8, _⟩ := hm
  split at h1 <;> split at h1 <;> omega
theorem byteBits_eq (l : List Int) (h : ∀ x ∈ l, 0 ≤ x ∧ x < 256) : byteBits l = some (l.flatMap fun x => ofI x 8) := by
  induction l with
  | nil => rfl
  | cons x t ih =>
    have hx := h x (List.mem_cons_self ..)
    have e : bits_Of.f 1000 (IntKind.u64.wrap x) 8 = some (ofI x 8, 0) := by
      rw [u64_wrap (by omega) (by omega)]
      exact of_yes x 8 (by omega) (by omega) (by omega) (by omega)
    rw [byteBits, e]
    (try simp only [Option.bind_some])
    rw [if_pos ⟨trivial, by rw [ofI_length]; omega⟩, ih (fun y hy => h y (List.mem_cons_of_mem _ hy))]
    rfl
theorem fbits_no (F : Fr) (hb : F.isB) (hm : ¬ F.may) : field_Bits.f F.id F.ext F.rtr F.len F.b0 F.b1 F.b2 F.b3 F.b4 F.b5 F.b6 F.b7 = some ([], 14) := by
  unfold field_Bits.f
  rw [farb_no F hb hm]
  (try simp only [Option.bind_some])
  rw [if_pos (by decide)]
theorem fbits_yes (F : Fr) (hb : F.isB) (hm : F.may) : field_Bits.f F.id F.ext F.rtr F.len F.b0 F.b1 F.b2 F.b3 F.b4 F.b5 F.b6 F.b7 = some (F.bits, 0) := by
  have h0 := hm.2.2.1
  have h8 := hm.2.2.2.1
  have el : bits_Of.f 1000 (IntKind.u64.wrap F.len) (if F.ext = true then 6 else 5) = some (ofI F.len (if F.ext = true then 6 else 5), 0) := by
    rw [u64_wrap (by omega) (by omega)]
    split
    · exact of_yes F.len 6 (by omega) (by omega) (by omega) (by omega)
    · exact of_yes F.len 5 (by omega) (by omega) (by omega) (by omega)
  unfold field_Bits.f
  rw [farb_yes F hb hm (by omega)]
  (try simp only [Option.bind_some])
  rw [if_neg (by decide), if_pos ⟨h0, h8, by rw [F.arb_length]; split <;> omega⟩, el]
  (try simp only [Option.bind_some])
  rw [if_pos ⟨trivial, by rw [ofI_length]; split <;> omega⟩]
  unfold Fr.bits Fr.dat
  by_cases c : F.rtr = true
  · rw [if_pos c, if_pos c, List.append_nil]
  · rw [if_neg c, if_neg c, show ([F.b0, F.b1, F.b2, F.b3, F.b4, F.b5, F.b6, F.b7] : List Int) = F.d from rfl, byteBits_eq _ (fun x hx => hb x (List.mem_of_mem_take hx))]
    rfl
theorem refBits_l0 (F : Fr) (hb : F.isB) (h8 : F.len ≤ 8) (hr : F.rtr = false) (n : Nat) : ∀ (k i : Nat) (x : List Int), F.len.toNat - i = n → i ≤ F.len.toNat → n + 20 < k → x.length + 8 * n ≤ 1000 →
    magnetoref04_Bits.l0 k x (i : Int) F.id F.ext F.rtr F.len F.b0 F.b1 F.b2 F.b3 F.b4 F.b5 F.b6 F.b7 = some (x ++ ((F.d.take F.len.toNat).drop i).flatMap fun x => ofI x 8) := by
  induction n with
  | zero =>
    intro k i x hd hi hk hx
    obtain ⟨k, rfl⟩ : ∃ m, k = m + 1 := ⟨k - 1, by omega⟩
    simp only [magnetoref04_Bits.l0]
    rw [if_neg (by omega), List.drop_eq_nil_of_le (by rw [List.length_take, Fr.d_length]; omega)]
    simp
  | succ n ih =>
    intro k i x hd hi hk hx
    obtain ⟨k, rfl⟩ : ∃ m, k = m + 1 := ⟨k - 1, by omega⟩
    have hi' : i < F.d.length := by rw [Fr.d_length]; omega
    have hi2 : i < (F.d.take F.len.toNat).length := by rw [List.length_take, Fr.d_length]; omega
    have hbi := hb F.d[i] (List.getElem_mem hi')
    have hr' : rd ([F.b0, F.b1, F.b2, F.b3, F.b4, F.b5, F.b6, F.b7] : List Int) (i : Int) = F.d[i] := rd_at F.d i hi'
    have ed : magnetoref04_digits.f k (wrap64 F.d[i]) 8 = some (ofI F.d[i] 8) := by
      rw [wrap_in (by omega) (by omega)]
      exact digits4_eq 8 _ k (by omega) (by omega) (by omega) (by omega)
    simp only [magnetoref04_Bits.l0]
    rw [if_pos (by omega), if_neg (by rw [hr]; decide), if_pos (by omega), if_pos (by rw [Fr.d_length] at hi'; omega), hr', ed]
    (try simp only [Option.bind_some])
    rw [if_pos (by rw [ofI_length]; omega), wrap_in (by omega) (by omega), show (i : Int) + 1 = ((i + 1 : Nat) : Int) from by omega, ih k (i + 1) _ (by omega) (by omega) (by omega) (by rw [List.length_append, ofI_length]; omega), List.drop_eq_getElem_cons hi2, List.flatMap_cons, List.getElem_take, List.append_assoc]
theorem refBits_eq (F : Fr) (hb : F.isB) (hm : F.may) {k : Nat} (hk : 60 ≤ k) : magnetoref04_Bits.f k F.id F.ext F.rtr F.len F.b0 F.b1 F.b2 F.b3 F.b4 F.b5 F.b6 F.b7 = some F.bits := by
  have h0 := hm.2.2.1
  have h8 := hm.2.2.2.1
  have hj : ∀ x : List Int, x.length ≤ 100 → magnetoref04_Bits.j0 k x F.id F.ext F.rtr F.len F.b0 F.b1 F.b2 F.b3 F.b4 F.b5 F.b6 F.b7 = some (x ++ ofI F.len 4 ++ F.dat) := by
    intro x hx
    obtain ⟨k, rfl⟩ : ∃ m, k = m + 2 := ⟨k - 2, by omega⟩
    have ed : magnetoref04_digits.f (k + 1) F.len 4 = some (ofI F.len 4) := digits4_eq 4 _ _ (by omega) (by omega) (by omega) (by omega)
    simp only [magnetoref04_Bits.j0]
    rw [ed]
    (try simp only [Option.bind_some])
    rw [if_pos (by rw [ofI_length]; omega)]
    unfold Fr.dat
    by_cases c : F.rtr = true
    · rw [if_pos c, List.append_nil]
      simp only [magnetoref04_Bits.l0]
      by_cases c0 : 0 < F.len
      · rw [if_pos c0, if_pos c]
      · rw [if_neg c0]
    · rw [if_neg c]
      have := refBits_l0 F hb h8 (by simpa using c) F.len.toNat (k + 1) 0 (x ++ ofI F.len 4) (by omega) (by omega) (by omega) (by rw [List.length_append, ofI_length]; omega)
      rw [List.drop_zero] at this
      exact this
  have hl := F.arb_length
  have hl2 : F.arb.length ≤ 32 := by rw [hl]; split <;> omega
  unfold magnetoref04_Bits.f
  (try simp only [Option.bind_some])
  rw [refArb_eq F hm (by omega)]
  (try simp only [Option.bind_some])
  rw [if_pos (by simp; omega)]
  (try simp only [Option.bind_some])
  rw [if_pos (by simp; omega)]
  (try simp only [Option.bind_some])
  have hz : F.len / 2 ^ 4 = 0 := by
    rw [show (2 : Int) ^ 4 = 16 from by decide]
    omega
  unfold Fr.bits
  by_cases c : F.ext = true
  · rw [if_pos c, if_pos (by simp; omega), hj _ (by simp; omega), if_pos c, show (6 : Nat) = 2 + 4 from rfl, ofI_append 4 F.len 2, hz]
    simp [ofI]
  · rw [if_neg c, hj _ (by simp; omega), if_neg c, show (5 : Nat) = 1 + 4 from rfl, ofI_append 4 F.len 1, hz]
    simp [ofI]
/-- All levels. -/
def Fr.all (F : Fr) : List Int := F.bits ++ ofI ((crcN F.bits : Nat) : Int) 15 ++ List.replicate 10 1
theorem Fr.all_length (F : Fr) : F.all.length = F.bits.length + 25 := by
  unfold Fr.all
  rw [List.length_append, List.length_append, ofI_length, List.length_replicate]
theorem Fr.all_lv (F : Fr) : isLv F.all := isLv_append.mpr ⟨isLv_append.mpr ⟨F.bits_lv, ofI_lv _ _⟩, isLv_replicate _ (.inr rfl)⟩
theorem fall_no (F : Fr) (hb : F.isB) (hm : ¬ F.may) (k : Nat) : field_All.f k F.id F.ext F.rtr F.len F.b0 F.b1 F.b2 F.b3 F.b4 F.b5 F.b6 F.b7 = some ([], 14) := by
  unfold field_All.f
  rw [fbits_no F hb hm]
  (try simp only [Option.bind_some])
  rw [if_neg (by decide)]
theorem fall_yes (F : Fr) (hb : F.isB) (hm : F.may) {k : Nat} (hk : 30 ≤ k) : field_All.f k F.id F.ext F.rtr F.len F.b0 F.b1 F.b2 F.b3 F.b4 F.b5 F.b6 F.b7 = some (F.all, 0) := by
  unfold field_All.f
  rw [fbits_yes F hb hm]
  simp only [Option.bind_some, if_true]
  rw [sum_lv F.bits_lv]
  simp only [Option.bind_some, if_true]
  rw [bits_yes _ (crcN_lt _) (by omega)]
  simp only [Option.bind_some, if_true]
  have hs := F.bits_small hm
  have er : slices_Repeat_int_int.f ([1] : List Int) 10 = some (List.replicate 10 1) := by
    unfold slices_Repeat_int_int.f
    rw [if_pos ⟨rfl, rfl⟩]
    rfl
  rw [er]
  (try simp only [Option.bind_some])
  rw [concat_eq _ (by simp [ofI_length]; omega)]
  unfold Fr.all
  simp
theorem refAll_eq (F : Fr) (hb : F.isB) (hm : F.may) {k : Nat} (hk : 200 ≤ k) : magnetoref04_All.f k F.id F.ext F.rtr F.len F.b0 F.b1 F.b2 F.b3 F.b4 F.b5 F.b6 F.b7 = some F.all := by
  have hs := F.bits_small hm
  unfold magnetoref04_All.f
  rw [refBits_eq F hb hm (by omega)]
  (try simp only [Option.bind_some])
  unfold magnetoref04_Sum.f
  rw [refSum_eq F.bits_lv (by omega) (by omega)]
  (try simp only [Option.bind_some])
  rw [if_pos (by rw [ofI_length]; omega)]
  (try simp only [Option.bind_some])
  rw [if_pos (by simp [ofI_length]; omega)]
  unfold Fr.all
  rfl
end Go.Proofs.Ytakemodmdhglnaa.Pure
