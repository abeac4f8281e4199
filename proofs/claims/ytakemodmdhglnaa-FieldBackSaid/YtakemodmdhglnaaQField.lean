/- The fields of a row of levels, as the program's functions and the document's tell them. -/
import Derived.Test.YtakemodmdhglnaaQBitsB
import Derived.Test.YtakemodmdhglnaaPAx17
import Derived.Test.YtakemodmdhglnaaPAx18
import Derived.Test.YtakemodmdhglnaaPAx23
import Derived.Test.YtakemodmdhglnaaPAx22
namespace Go.Proofs.Ytakemodmdhglnaa.Pure
open Go.RowKit Go.Proofs.Ytakemodmdhglnaa.PA Go.Proofs.YtakemodmdhglnaaW.PrintWords Go.Proofs.YtakemodmdhglnaaW.PrintLast Go.Proofs.YtakemodmdhglnaaW.PrintMore

theorem refValue4_l0 (l : List Int) (h : isLv l) (hl : l.length ≤ 40) (d : Nat) : ∀ (k i : Nat), l.length - i = d → i ≤ l.length → d < k →
    magnetoref04_Value.l0 k l (valI (l.take i)) (i : Int) = some (valI l) := by
  induction d with
  | zero =>
    intro k i hd hi hk
    obtain ⟨k, rfl⟩ : ∃ m, k = m + 1 := ⟨k - 1, by omega⟩
    simp only [magnetoref04_Value.l0]
    rw [if_neg (by omega), List.take_of_length_le (by omega)]
  | succ d ih =>
    intro k i hd hi hk
    obtain ⟨k, rfl⟩ : ∃ m, k = m + 1 := ⟨k - 1, by omega⟩
    have hi' : i < l.length := by omega
    have hx := rd_lv h i hi'
    have e : 2 * valI (l.take i) + rd l (i : Int) = valI (l.take (i + 1)) := by
      rw [List.take_succ_eq_append_getElem hi', valI_snoc, rd_at l i hi']
    have hb := valI_bounds (isLv_take h i)
    have hp := pow_le (show (l.take i).length ≤ 40 by rw [List.length_take]; omega)
    have h15 : (2 : Int) ^ 40 = 1099511627776 := by decide
    simp only [magnetoref04_Value.l0]
    rw [if_pos (by omega), if_pos (by omega), wrap_in (x := (i : Int) + 1) (by omega) (by omega), wrap_in (x := 2 * valI (l.take i)) (by omega) (by omega), wrap_in (by omega) (by omega), e, show (i : Int) + 1 = ((i + 1 : Nat) : Int) from by omega]
    exact ih k (i + 1) (by omega) (by omega) (by omega)
theorem refValue4_eq {l : List Int} (h : isLv l) (hl : l.length ≤ 40) {k : Nat} (hk : l.length < k) : magnetoref04_Value.f k l = some (valI l) := by
  unfold magnetoref04_Value.f
  have := refValue4_l0 l h hl l.length k 0 (by omega) (by omega) hk
  simpa [valI] using this
/-- The levels from one place to another. -/
def cut (l : List Int) (a b : Nat) : List Int := (l.take b).drop a
theorem cut_lv {l : List Int} (h : isLv l) (a b : Nat) : isLv (cut l a b) := isLv_drop (isLv_take h b) a
theorem cut_length (l : List Int) (a b : Nat) (hb : b ≤ l.length) : (cut l a b).length = b - a := by
  unfold cut
  rw [List.length_drop, List.length_take]
  omega
theorem cut4 {l : List Int} (h : isLv l) (a b : Nat) (hb : b ≤ l.length) (hab : b = a + 4) : 0 ≤ valI (cut l a b) ∧ valI (cut l a b) < 16 := by
  have := valI_bounds (cut_lv h a b)
  rw [cut_length l a b hb, show b - a = 4 from by omega] at this
  exact this
/-- What the first levels tell. -/
def fh (l : List Int) : Bool × Bool × Int × Int × Int × Bool :=
  if l.length ≤ 13 then (false, false, 0, 0, 0, false)
  else if rd l 13 = 1 then (if l.length < 39 then (true, false, 33, 39, 0, false) else (true, rd l 32 == 1, 33, 39, mn (valI (cut l 35 39)) 8, true))
  else (if l.length < 19 then (false, false, 14, 19, 0, false) else (false, rd l 12 == 1, 14, 19, mn (valI (cut l 15 19)) 8, true))
theorem read_eq {l : List Int} (h : isLv l) : field_read.f l = some (fh l) := by
  unfold field_read.f fh
  by_cases c0 : l.length ≤ 13
  · rw [if_pos (by omega), if_pos c0]
  rw [if_neg (by omega), if_neg c0]
  by_cases c1 : rd l 13 = 1
  · rw [if_pos c1, if_pos c1]
    by_cases c2 : l.length < 39
    · rw [if_pos (by omega), if_pos c2]
    · rw [if_neg (by omega), if_neg c2]
      have h4 := cut4 h 35 39 (by omega) rfl
      rw [show (l.take 39).drop 35 = cut l 35 39 from rfl, value_lv (cut_lv h _ _) (by rw [cut_length _ _ _ (by omega)]; omega) (by rw [cut_length _ _ _ (by omega)]; omega)]
      simp only [Option.bind_some]
      rw [wrap_in (by omega) (by omega)]
  · rw [if_neg c1, if_neg c1]
    by_cases c2 : l.length < 19
    · rw [if_pos (by omega), if_pos c2]
    · rw [if_neg (by omega), if_neg c2]
      have h4 := cut4 h 15 19 (by omega) rfl
      rw [show (l.take 19).drop 15 = cut l 15 19 from rfl, value_lv (cut_lv h _ _) (by rw [cut_length _ _ _ (by omega)]; omega) (by rw [cut_length _ _ _ (by omega)]; omega)]
      simp only [Option.bind_some]
      rw [wrap_in (by omega) (by omega)]
/-- How many bytes, and how many levels of them. -/
def bytesOf (l : List Int) : Int := if rd l 13 = 1 then mn (valI (cut l 35 39)) 8 else mn (valI (cut l 15 19)) 8
def dl (l : List Int) : Int := if (if rd l 13 = 1 then rd l 32 else rd l 12) = 1 then 0 else 8 * bytesOf l
theorem bytesOf_1 {l : List Int} (c : rd l 13 = 1) : bytesOf l = mn (valI (cut l 35 39)) 8 := by unfold bytesOf; rw [if_pos c]
theorem bytesOf_0 {l : List Int} (c : ¬ rd l 13 = 1) : bytesOf l = mn (valI (cut l 15 19)) 8 := by unfold bytesOf; rw [if_neg c]
theorem mn_gt {x : Int} (h : x > 8) : mn x 8 = 8 := by unfold mn; rw [if_pos (by omega)]
theorem mn_le {x : Int} (h : ¬ x > 8) : mn x 8 = x := by unfold mn; rw [if_neg (by omega)]
theorem mn8 {x : Int} (h : 0 ≤ x) : 0 ≤ mn x 8 ∧ mn x 8 ≤ 8 := by
  unfold mn
  split <;> omega
/-- As many levels as each field has. -/
def Wd (l : List Int) : List Int :=
  if l.length < 14 then [1]
  else if rd l 13 = 1 then (if l.length < 39 then [1, 32, 6] else [1, 32, 6, dl l, 15, 1, 1, 1, 7])
  else (if l.length < 19 then [1, 13, 5] else [1, 13, 5, dl l, 15, 1, 1, 1, 7])
theorem j1_eq {l : List Int} {k : Nat} (arb ctrl v : Int) (hl : 13 < l.length) (hx : rd l 13 = 1 → 32 < l.length) (h0 : 0 ≤ v) (h8 : v ≤ 8) :
    magnetoref04_Widths.j1 (k + 1) l arb ctrl v = some [1, arb, ctrl, if (if rd l 13 = 1 then rd l 32 else rd l 12) = 1 then 0 else 8 * v, 15, 1, 1, 1, 7] := by
  simp only [magnetoref04_Widths.j1]
  rw [if_pos (by omega), if_pos (by omega), wrap_in (x := 8 * v) (by omega) (by omega)]
  by_cases c : rd l 13 = 1
  · rw [if_pos c, if_pos c, if_pos (by have := hx c; omega)]
    by_cases d : rd l 32 = 1
    · rw [if_pos d, if_pos d]; rfl
    · rw [if_neg d, if_neg d]
  · rw [if_neg c, if_neg c]
    by_cases d : rd l 12 = 1
    · rw [if_pos d, if_pos d]; rfl
    · rw [if_neg d, if_neg d]
theorem widths_eq {l : List Int} (h : isLv l) {k : Nat} (hk : 10 ≤ k) : magnetoref04_Widths.f k l = some (Wd l) := by
  obtain ⟨k, rfl⟩ : ∃ m, k = m + 2 := ⟨k - 2, by omega⟩
  unfold magnetoref04_Widths.f Wd
  by_cases c0 : l.length < 14
  · rw [if_pos (by omega), if_pos c0]
  rw [if_neg (by omega), if_neg c0, if_pos (by omega)]
  by_cases c1 : rd l 13 = 1
  · rw [if_pos c1, if_pos c1]
    simp only [magnetoref04_Widths.j0]
    rw [show wrap64 (wrap64 (1 + 32) + 6) = 39 from by decide +kernel, show wrap64 (wrap64 (32 + 6) - 3) = 35 from by decide +kernel, show wrap64 (wrap64 (32 + 6) + 1) = 39 from by decide +kernel]
    by_cases c2 : l.length < 39
    · rw [if_pos (by omega), if_pos c2]
    · have h4 := cut4 h 35 39 (by omega) rfl
      rw [if_neg (by omega), if_neg c2, if_pos (by omega), if_pos (by omega), if_pos (by omega), show (l.take (39 : Int).toNat).drop (35 : Int).toNat = cut l 35 39 from rfl, refValue4_eq (cut_lv h _ _) (by rw [cut_length _ _ _ (by omega)]; omega) (by rw [cut_length _ _ _ (by omega)]; omega)]
      simp only [Option.bind_some]
      by_cases c3 : valI (cut l 35 39) > 8
      · rw [if_pos c3, j1_eq _ _ _ (by omega) (by omega) (by omega) (by omega), dl, bytesOf_1 c1, mn_gt c3]
      · rw [if_neg c3, j1_eq _ _ _ (by omega) (by omega) (by omega) (by omega), dl, bytesOf_1 c1, mn_le (by omega)]
  · rw [if_neg c1, if_neg c1]
    simp only [magnetoref04_Widths.j0]
    rw [show wrap64 (wrap64 (1 + 13) + 5) = 19 from by decide +kernel, show wrap64 (wrap64 (13 + 5) - 3) = 15 from by decide +kernel, show wrap64 (wrap64 (13 + 5) + 1) = 19 from by decide +kernel]
    by_cases c2 : l.length < 19
    · rw [if_pos (by omega), if_pos c2]
    · have h4 := cut4 h 15 19 (by omega) rfl
      rw [if_neg (by omega), if_neg c2, if_pos (by omega), if_pos (by omega), if_pos (by omega), show (l.take (19 : Int).toNat).drop (15 : Int).toNat = cut l 15 19 from rfl, refValue4_eq (cut_lv h _ _) (by rw [cut_length _ _ _ (by omega)]; omega) (by rw [cut_length _ _ _ (by omega)]; omega)]
      simp only [Option.bind_some]
      by_cases c3 : valI (cut l 15 19) > 8
      · rw [if_pos c3, j1_eq _ _ _ (by omega) (fun e => absurd e c1) (by omega) (by omega), dl, bytesOf_0 c1, mn_gt c3]
      · rw [if_neg c3, j1_eq _ _ _ (by omega) (fun e => absurd e c1) (by omega) (by omega), dl, bytesOf_0 c1, mn_le (by omega)]
/-- Where a level stands, counted down. -/
def nextGo (w : List Int) : List Int → Int → Int → Int × Int
  | [], _, x => if (w.length : Int) = 1 then (1, x) else if x > 0 then (-1, 0) else (9, 0)
  | wd :: t, i, x => if x < wd then (i, x) else nextGo w t (i + 1) (x - wd)
theorem refNext_l0 (w : List Int) (hw : ∀ y ∈ w, 0 ≤ y ∧ y ≤ 1000) (hn : w.length ≤ 100) (d : Nat) : ∀ (k i : Nat) (x : Int), 0 ≤ x → x ≤ 100000 → w.length - i = d → i ≤ w.length → d < k →
    magnetoref04_Next.l0 k w x (i : Int) = some (nextGo w (w.drop i) (i : Int) x) := by
  induction d with
  | zero =>
    intro k i x h0 h1 hd hi hk
    obtain ⟨k, rfl⟩ : ∃ m, k = m + 1 := ⟨k - 1, by omega⟩
    simp only [magnetoref04_Next.l0]
    rw [if_neg (by omega), List.drop_eq_nil_of_le (by omega), nextGo]
    split
    · rfl
    · split <;> rfl
  | succ d ih =>
    intro k i x h0 h1 hd hi hk
    obtain ⟨k, rfl⟩ : ∃ m, k = m + 1 := ⟨k - 1, by omega⟩
    have hi' : i < w.length := by omega
    have hwi := hw w[i] (List.getElem_mem hi')
    simp only [magnetoref04_Next.l0]
    rw [if_pos (by omega), if_pos (by omega), rd_at w i hi', List.drop_eq_getElem_cons hi', nextGo]
    by_cases c : x < w[i]
    · rw [if_pos c, if_pos c]
    · rw [if_neg c, if_neg c, wrap_in (by omega) (by omega), wrap_in (by omega) (by omega), show (i : Int) + 1 = ((i + 1 : Nat) : Int) from by omega]
      exact ih k (i + 1) (x - w[i]) (by omega) (by omega) (by omega) (by omega) (by omega)
theorem dl_bounds {l : List Int} (h : isLv l) (h19 : 19 ≤ l.length) (h39 : rd l 13 = 1 → 39 ≤ l.length) : 0 ≤ dl l ∧ dl l ≤ 64 := by
  unfold dl bytesOf
  by_cases c : rd l 13 = 1
  · have := mn8 (cut4 h 35 39 (h39 c) rfl).1
    rw [if_pos c, if_pos c]
    split <;> omega
  · have := mn8 (cut4 h 15 19 h19 rfl).1
    rw [if_neg c, if_neg c]
    split <;> omega
theorem Wd_small {l : List Int} (h : isLv l) : (∀ y ∈ Wd l, 0 ≤ y ∧ y ≤ 1000) ∧ (Wd l).length ≤ 100 := by
  unfold Wd
  split
  · simp
  · split
    · split
      · simp
      · have := dl_bounds h (by omega) (fun _ => by omega)
        simp
        omega
    · rename_i c
      split
      · simp
      · have := dl_bounds h (by omega) (fun e => absurd e c)
        simp
        omega
theorem refNext_eq {l : List Int} (h : isLv l) (hl : l.length ≤ 300) {k : Nat} (hk : 200 ≤ k) : magnetoref04_Next.f k l = some (nextGo (Wd l) (Wd l) 0 (l.length : Int)) := by
  unfold magnetoref04_Next.f
  rw [widths_eq h (by omega)]
  have hs := Wd_small h
  have := refNext_l0 (Wd l) hs.1 hs.2 (Wd l).length k 0 (l.length : Int) (by omega) (by omega) (by omega) (by omega) (by omega)
  simpa using this
/-- Are all told. -/
def whole (l : List Int) : Prop := 13 < l.length ∧ (if rd l 13 = 1 then 39 ≤ l.length else 19 ≤ l.length)
instance (l : List Int) : Decidable (whole l) := by unfold whole; infer_instance
/-- How many are ahead of the sum. -/
def aheadN (l : List Int) : Int := (if rd l 13 = 1 then 39 else 19) + dl l
theorem refAhead_eq {l : List Int} (h : isLv l) {k : Nat} (hk : 10 ≤ k) : magnetoref04_Ahead.f k l = some (if whole l then aheadN l else -1) := by
  unfold magnetoref04_Ahead.f
  rw [widths_eq h hk]
  simp only [Option.bind_some]
  unfold aheadN Wd
  by_cases c0 : l.length < 14
  · rw [if_pos c0, if_neg (c := whole l) (fun e => by have := e.1; omega)]
    rfl
  rw [if_neg c0]
  by_cases c1 : rd l 13 = 1
  · simp only [if_pos c1]
    by_cases c2 : l.length < 39
    · rw [if_pos c2, if_neg (c := whole l) (fun e => by have := e.2; rw [if_pos c1] at this; omega)]
      rfl
    · have := dl_bounds h (by omega) (fun _ => by omega)
      rw [if_neg c2, if_pos (c := whole l) ⟨by omega, by rw [if_pos c1]; omega⟩]
      simp only [rd, List.length_cons, List.length_nil]
      simp
      rw [show wrap64 (wrap64 33 + 6) = 39 from by decide +kernel, wrap_in (by omega) (by omega)]
  · simp only [if_neg c1]
    by_cases c2 : l.length < 19
    · rw [if_pos c2, if_neg (c := whole l) (fun e => by have := e.2; rw [if_neg c1] at this; omega)]
      rfl
    · have := dl_bounds h (by omega) (fun e => absurd e c1)
      rw [if_neg c2, if_pos (c := whole l) ⟨by omega, by rw [if_neg c1]; omega⟩]
      simp only [rd, List.length_cons, List.length_nil]
      simp
      rw [show wrap64 (wrap64 14 + 5) = 19 from by decide +kernel, wrap_in (by omega) (by omega)]
theorem fh_w1 {l : List Int} (c1 : rd l 13 = 1) (hn : 39 ≤ l.length) : fh l = (true, rd l 32 == 1, 33, 39, bytesOf l, true) := by
  unfold fh bytesOf
  rw [if_neg (by omega), if_pos c1, if_neg (by omega), if_pos c1]
theorem fh_w0 {l : List Int} (c1 : ¬ rd l 13 = 1) (hn : 19 ≤ l.length) : fh l = (false, rd l 12 == 1, 14, 19, bytesOf l, true) := by
  unfold fh bytesOf
  rw [if_neg (by omega), if_neg c1, if_neg (by omega), if_neg c1]
theorem bytes_bounds {l : List Int} (h : isLv l) (hw : whole l) : 0 ≤ bytesOf l ∧ bytesOf l ≤ 8 := by
  obtain ⟨h13, hw⟩ := hw
  by_cases c1 : rd l 13 = 1
  · rw [if_pos c1] at hw
    rw [bytesOf_1 c1]
    exact mn8 (cut4 h 35 39 hw rfl).1
  · rw [if_neg c1] at hw
    rw [bytesOf_0 c1]
    exact mn8 (cut4 h 15 19 hw rfl).1
theorem headsum_eq {l : List Int} (h : isLv l) (hw : whole l) : field_head_sum.f (fh l).1 (fh l).2.1 (fh l).2.2.1 (fh l).2.2.2.1 (fh l).2.2.2.2.1 = some (aheadN l) := by
  have hb := bytes_bounds h hw
  unfold field_head_sum.f aheadN dl
  obtain ⟨h13, hw⟩ := hw
  by_cases c1 : rd l 13 = 1
  · rw [if_pos c1] at hw
    rw [fh_w1 c1 hw]
    simp only [if_pos c1]
    rw [wrap_in (x := 8 * _) (by omega) (by omega), wrap_in (by omega) (by omega)]
    by_cases d : rd l 32 = 1
    · simp [d]
    · simp [d]
  · rw [if_neg c1] at hw
    rw [fh_w0 c1 hw]
    simp only [if_neg c1]
    rw [wrap_in (x := 8 * _) (by omega) (by omega), wrap_in (by omega) (by omega)]
    by_cases d : rd l 12 = 1
    · simp [d]
    · simp [d]
theorem fh_whole {l : List Int} (hw : whole l) : (fh l).2.2.2.2.2 = true := by
  obtain ⟨h13, hw⟩ := hw
  unfold fh
  rw [if_neg (by omega)]
  by_cases c1 : rd l 13 = 1
  · simp only [if_pos c1] at hw ⊢
    rw [if_neg (by omega)]
  · simp only [if_neg c1] at hw ⊢
    rw [if_neg (by omega)]
theorem fh_part {l : List Int} (hw : ¬ whole l) : (fh l).2.2.2.2.2 = false := by
  unfold fh
  unfold whole at hw
  by_cases c0 : l.length ≤ 13
  · rw [if_pos c0]
  rw [if_neg c0]
  by_cases c1 : rd l 13 = 1
  · simp only [if_pos c1] at hw ⊢
    rw [if_pos (by omega)]
  · simp only [if_neg c1] at hw ⊢
    rw [if_pos (by omega)]
theorem ahead_eq {l : List Int} (h : isLv l) : field_Ahead.f l = some (if whole l then (aheadN l, 0) else (0, 13)) := by
  unfold field_Ahead.f
  rw [check_lv h, read_eq h]
  simp only [Option.bind_some]
  rw [if_neg (by omega)]
  by_cases hw : whole l
  · rw [if_pos (fh_whole hw), headsum_eq h hw, if_pos hw]
    rfl
  · rw [if_neg (by rw [fh_part hw]; decide), if_neg hw]
theorem ahead_no {l : List Int} (h : ¬ isLv l) : field_Ahead.f l = some (0, 10) := by
  unfold field_Ahead.f
  rw [check_eq]
  simp only [Option.bind_some]
  rw [if_pos (chk_ge h).1]
theorem next_no {l : List Int} (h : ¬ isLv l) : field_Next.f l = some (0, 0, 10) := by
  unfold field_Next.f
  rw [if_pos (chk_ge h).1]
/-- Both ways of counting tell the same. -/
theorem nextAt_go (w : List Int) (n : Int) (h1 : n ≤ 100000) : ∀ (t : List Int) (k at_ : Int), 0 ≤ k → (∀ y ∈ t, 0 ≤ y ∧ y ≤ 1000) → 0 ≤ at_ → at_ ≤ n → w.length ≠ 1 →
    nextAt n t k at_ = if (nextGo w t k (n - at_)).1 < 0 then (0, 0, 12) else ((nextGo w t k (n - at_)).1, (nextGo w t k (n - at_)).2, 0) := by
  intro t
  induction t with
  | nil =>
    intro k at_ _ _ h0 hn hw
    rw [nextAt, nextGo, if_neg (c := (w.length : Int) = 1) (by omega)]
    by_cases c : n > at_
    · rw [if_pos c, if_pos (c := n - at_ > 0) (by omega), if_pos (by decide)]
    · rw [if_neg c, if_neg (c := n - at_ > 0) (by omega), if_neg (by decide)]
  | cons y t ih =>
    intro k at_ hk hy h0 hn hw
    have hy0 := hy y (List.mem_cons_self ..)
    rw [nextAt, nextGo, wrap_in (x := at_ + y) (by omega) (by omega)]
    by_cases c : n < at_ + y
    · rw [if_pos c, if_pos (c := n - at_ < y) (by omega), wrap_in (by omega) (by omega), if_neg (by omega)]
    · rw [if_neg c, if_neg (c := n - at_ < y) (by omega), ih (k + 1) (at_ + y) (by omega) (fun z hz => hy z (List.mem_cons_of_mem _ hz)) (by omega) (by omega) hw, show n - (at_ + y) = n - at_ - y from by omega]
/-- Where the next level stands. -/
def nx (l : List Int) : Int × Int := nextGo (Wd l) (Wd l) 0 (l.length : Int)
theorem next_lv {l : List Int} (h : isLv l) (hl : l.length ≤ 300) : field_Next.f l = some (if (nx l).1 < 0 then (0, 0, 12) else ((nx l).1, (nx l).2, 0)) := by
  unfold field_Next.f
  rw [chk_of_lv h, if_neg (by omega), read_eq h]
  simp only [Option.bind_some]
  by_cases e0 : (l.length : Int) = 0
  · have hx : nx l = (0, 0) := by
      unfold nx Wd
      rw [if_pos (by omega), e0]
      rfl
    rw [if_pos e0, hx]
    rfl
  rw [if_neg e0]
  by_cases e1 : (l.length : Int) ≤ 13
  · have hx : nx l = (1, (l.length : Int) - 1) := by
      unfold nx Wd
      rw [if_pos (by omega), nextGo, if_neg (by omega), nextGo, if_pos (by rfl)]
    rw [if_pos e1, hx]
    rfl
  rw [if_neg e1]
  by_cases c1 : rd l 13 = 1
  · by_cases c2 : l.length < 39
    · have hf : fh l = (true, false, 33, 39, 0, false) := by unfold fh; rw [if_neg (by omega), if_pos c1, if_pos c2]
      rw [hf]
      by_cases c3 : l.length ≤ 32
      · have hx : nx l = (1, (l.length : Int) - 1) := by
          unfold nx Wd
          rw [if_neg (by omega), if_pos c1, if_pos c2, nextGo, if_neg (by omega), nextGo, if_pos (by omega)]
          rfl
        rw [if_pos ⟨rfl, by omega⟩, hx]
        rfl
      · have hx : nx l = (2, (l.length : Int) - 33) := by
          unfold nx Wd
          rw [if_neg (by omega), if_pos c1, if_pos c2, nextGo, if_neg (by omega), nextGo, if_neg (by omega), nextGo, if_pos (by omega)]
          rw [show (l.length : Int) - 1 - 32 = l.length - 33 from by omega]
          rfl
        rw [if_neg (by omega), if_pos rfl, hx]
        simp only
        rw [wrap_in (by omega) (by omega)]
        rfl
    · have hd := dl_bounds h (by omega) (fun _ => by omega)
      have hs := headsum_eq h ⟨by omega, by rw [if_pos c1]; omega⟩
      rw [fh_w1 c1 (by omega)] at hs ⊢
      simp only at hs ⊢
      rw [if_neg (by omega), if_neg (by decide), hs]
      simp only [Option.bind_some]
      have ha : wrap64 (aheadN l - 39) = dl l := by rw [aheadN, if_pos c1, wrap_in (by omega) (by omega)]; omega
      have hW : Wd l = [1, 32, 6, dl l, 15, 1, 1, 1, 7] := by unfold Wd; rw [if_neg (by omega), if_pos c1, if_neg c2]
      have hx : nx l = nextGo (Wd l) [dl l, 15, 1, 1, 1, 7] 3 ((l.length : Int) - 39) := by
        unfold nx
        rw [hW, nextGo, if_neg (by omega), nextGo, if_neg (by omega), nextGo, if_neg (by omega), show (l.length : Int) - 1 - 32 - 6 = l.length - 39 from by omega]
        rfl
      rw [ha, nextAt, if_neg (by rw [wrap_in (by omega) (by omega)]; omega), nextAt, if_neg (by rw [wrap_in (x := 39 + 0) (by omega) (by omega), wrap_in (by omega) (by omega)]; omega), nextAt, if_neg (by rw [wrap_in (x := 39 + 0) (by omega) (by omega), wrap_in (x := 39 + 0 + 0) (by omega) (by omega), wrap_in (by omega) (by omega)]; omega)]
      rw [wrap_in (x := 39 + 0) (by omega) (by omega), wrap_in (x := 39 + 0 + 0) (by omega) (by omega), wrap_in (x := 39 + 0 + 0 + 0) (by omega) (by omega)]
      rw [show (39 : Int) + 0 + 0 + 0 = 39 from rfl, show (0 : Int) + 1 + 1 + 1 = 3 from rfl, nextAt_go (Wd l) _ (by omega) _ 3 39 (by omega) (by simp; omega) (by omega) (by omega) (by rw [hW]; simp), ← hx]
  · have hf0 : (fh l).1 = false := by unfold fh; rw [if_neg (by omega), if_neg c1]; split <;> rfl
    rw [if_neg (by rw [hf0]; simp)]
    by_cases c2 : l.length < 19
    · have hf : fh l = (false, false, 14, 19, 0, false) := by unfold fh; rw [if_neg (by omega), if_neg c1, if_pos c2]
      rw [hf]
      have hx : nx l = (2, (l.length : Int) - 14) := by
        unfold nx Wd
        rw [if_neg (by omega), if_neg c1, if_pos c2, nextGo, if_neg (by omega), nextGo, if_neg (by omega), nextGo, if_pos (by omega)]
        rw [show (l.length : Int) - 1 - 13 = l.length - 14 from by omega]
        rfl
      rw [if_pos rfl, hx]
      simp only
      rw [wrap_in (by omega) (by omega)]
      rfl
    · have hd := dl_bounds h (by omega) (fun e => absurd e c1)
      have hs := headsum_eq h ⟨by omega, by rw [if_neg c1]; omega⟩
      rw [fh_w0 c1 (by omega)] at hs ⊢
      simp only at hs ⊢
      rw [if_neg (by decide), hs]
      simp only [Option.bind_some]
      have ha : wrap64 (aheadN l - 19) = dl l := by rw [aheadN, if_neg c1, wrap_in (by omega) (by omega)]; omega
      have hW : Wd l = [1, 13, 5, dl l, 15, 1, 1, 1, 7] := by unfold Wd; rw [if_neg (by omega), if_neg c1, if_neg c2]
      have hx : nx l = nextGo (Wd l) [dl l, 15, 1, 1, 1, 7] 3 ((l.length : Int) - 19) := by
        unfold nx
        rw [hW, nextGo, if_neg (by omega), nextGo, if_neg (by omega), nextGo, if_neg (by omega), show (l.length : Int) - 1 - 13 - 5 = l.length - 19 from by omega]
        rfl
      rw [ha, nextAt, if_neg (by rw [wrap_in (by omega) (by omega)]; omega), nextAt, if_neg (by rw [wrap_in (x := 19 + 0) (by omega) (by omega), wrap_in (by omega) (by omega)]; omega), nextAt, if_neg (by rw [wrap_in (x := 19 + 0) (by omega) (by omega), wrap_in (x := 19 + 0 + 0) (by omega) (by omega), wrap_in (by omega) (by omega)]; omega)]
      rw [wrap_in (x := 19 + 0) (by omega) (by omega), wrap_in (x := 19 + 0 + 0) (by omega) (by omega), wrap_in (x := 19 + 0 + 0 + 0) (by omega) (by omega)]
      rw [show (19 : Int) + 0 + 0 + 0 = 19 from rfl, show (0 : Int) + 1 + 1 + 1 = 3 from rfl, nextAt_go (Wd l) _ (by omega) _ 3 19 (by omega) (by simp; omega) (by omega) (by omega) (by rw [hW]; simp), ← hx]
/-- The field's number is one of the ten. -/
theorem nextGo_range (w : List Int) (hw : w.length ≤ 9) : ∀ (t : List Int) (i x : Int), 0 ≤ i → i + t.length ≤ 9 → -1 ≤ (nextGo w t i x).1 ∧ (nextGo w t i x).1 ≤ 9 := by
  intro t
  induction t with
  | nil =>
    intro i x _ _
    rw [nextGo]
    split
    · simp
    · split <;> simp
  | cons y t ih =>
    intro i x h0 h1
    rw [nextGo]
    simp only [List.length_cons] at h1
    split
    · simp only
      omega
    · exact ih (i + 1) (x - y) (by omega) (by omega)
theorem Wd_nine (l : List Int) : (Wd l).length ≤ 9 := by
  unfold Wd
  repeat' split
  all_goals simp
theorem nx_range (l : List Int) : -1 ≤ (nx l).1 ∧ (nx l).1 ≤ 9 := nextGo_range _ (Wd_nine l) _ _ _ (by omega) (by have := Wd_nine l; omega)
theorem kind_eq {x : Int} (h0 : 0 ≤ x) (h9 : x ≤ 9) {k : Nat} (hk : 12 ≤ k) : magnetolaw04_kind.f k x = some x := by
  have h : magnetolaw04_kind.f 12 x = some x := by
    have hx : x = 0 ∨ x = 1 ∨ x = 2 ∨ x = 3 ∨ x = 4 ∨ x = 5 ∨ x = 6 ∨ x = 7 ∨ x = 8 ∨ x = 9 := by omega
    rcases hx with rfl | rfl | rfl | rfl | rfl | rfl | rfl | rfl | rfl | rfl <;> decide +kernel
  exact at_rounds (magnetolaw04_kind.mono x) hk h
theorem levels4_l0 (l : List Int) (hl : l.length ≤ 1000000000000) (d : Nat) : ∀ (k i : Nat), l.length - i = d → i ≤ l.length → d < k →
    ∃ b, magnetolaw04_levels.l0 k l (i : Int) = some b ∧ (b = true ↔ isLv (l.drop i)) := by
  induction d with
  | zero =>
    intro k i hd hi hk
    obtain ⟨k, rfl⟩ : ∃ m, k = m + 1 := ⟨k - 1, by omega⟩
    simp only [magnetolaw04_levels.l0]
    rw [if_neg (by omega), List.drop_eq_nil_of_le (by omega)]
    exact ⟨true, rfl, by simp [isLv]⟩
  | succ d ih =>
    intro k i hd hi hk
    obtain ⟨k, rfl⟩ : ∃ m, k = m + 1 := ⟨k - 1, by omega⟩
    have hi' : i < l.length := by omega
    obtain ⟨b, hb, hb'⟩ := ih k (i + 1) (by omega) (by omega) (by omega)
    simp only [magnetolaw04_levels.l0]
    rw [if_pos (by omega), if_pos (by omega), rd_at l i hi', wrap_in (by omega) (by omega), show (i : Int) + 1 = ((i + 1 : Nat) : Int) from by omega, hb, List.drop_eq_getElem_cons hi', isLv_cons]
    by_cases c0 : l[i] = 0
    · rw [if_pos c0]
      exact ⟨b, rfl, by rw [hb', c0]; simp⟩
    · rw [if_neg c0]
      by_cases c1 : l[i] = 1
      · rw [if_pos c1]
        exact ⟨b, rfl, by rw [hb', c1]; simp⟩
      · rw [if_neg c1]
        exact ⟨false, rfl, by simp [c0, c1]⟩
theorem levels4_eq (l : List Int) (hl : l.length ≤ 1000000000000) {k : Nat} (hk : l.length < k) : ∃ b, magnetolaw04_levels.f k l = some b ∧ (b = true ↔ isLv l) := by
  have := levels4_l0 l hl l.length k 0 (by omega) (by omega) hk
  simpa [magnetolaw04_levels.f] using this
end Go.Proofs.Ytakemodmdhglnaa.Pure
