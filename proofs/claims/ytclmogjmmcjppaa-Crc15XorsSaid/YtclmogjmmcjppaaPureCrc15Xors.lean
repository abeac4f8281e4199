/- magnetolaw02.Crc15Xors answers true for every two rows: the sum of levels that differ is the difference of their sums, and goes on level by level. Conditions: none. -/
import Derived.Test.YtclmogjmmcjppaaRCrc15Xors
import Derived.Test.YtclmogjmmcjppaaQCrc
import Derived.Test.YtclmogjmmcjppaaQAwakeN02
namespace Go.Proofs.Ytclmogjmmcjppaa.Pure
open Go.RowKit Go.Proofs.Ytclmogjmmcjppaa.PA Go.Proofs.YtclmogjmmcjppaaW.PrintWords Go.Proofs.YtclmogjmmcjppaaW.PrintLast Go.Proofs.YtclmogjmmcjppaaW.PrintMore

def xorI (x y : Int) : Int := Go.bits .xor .i64 x y
theorem xorI_lv {x y : Int} (hx : x = 0 ∨ x = 1) (hy : y = 0 ∨ y = 1) : xorI x y = ((x.toNat ^^^ y.toNat : Nat) : Int) ∧ (xorI x y = 0 ∨ xorI x y = 1) := by
  obtain ⟨a, rfl⟩ := Int.eq_ofNat_of_zero_le (show 0 ≤ x by omega)
  obtain ⟨b, rfl⟩ := Int.eq_ofNat_of_zero_le (show 0 ≤ y by omega)
  have e : xorI (a : Int) (b : Int) = ((a ^^^ b : Nat) : Int) := i64_xor_nat a b (by omega) (by omega)
  refine ⟨by simpa using e, ?_⟩
  rw [e]
  rcases hx with hx | hx <;> rcases hy with hy | hy
  all_goals
    obtain rfl : a = _ := Int.ofNat.inj hx
    obtain rfl : b = _ := Int.ofNat.inj hy
    simp
theorem xorI_rows : ∀ (a b : List Int), isLv a → isLv b → isLv (List.zipWith xorI a b) ∧ nats (List.zipWith xorI a b) = List.zipWith (· ^^^ ·) (nats a) (nats b)
  | [], _, _, _ => by simp [nats, isLv_nil]
  | _ :: _, [], _, _ => by simp [nats, isLv_nil]
  | x :: a, y :: b, ha, hb => by
    rw [isLv_cons] at ha hb
    obtain ⟨h1, h2⟩ := xorI_rows a b ha.2 hb.2
    obtain ⟨h3, h4⟩ := xorI_lv ha.1 hb.1
    constructor
    · rw [List.zipWith_cons_cons, isLv_cons]
      exact ⟨h4, h1⟩
    · simp only [nats, List.zipWith_cons_cons, List.map_cons] at h2 ⊢
      rw [h2, h3, Int.toNat_natCast]
theorem crcN_xor {a b : List Int} (ha : isLv a) (hb : isLv b) (hl : a.length = b.length) : crcN (List.zipWith xorI a b) = crcN a ^^^ crcN b := by
  unfold crcN
  rw [(xorI_rows a b ha hb).2]
  have := sumN_xor (nats a) (nats b) 0 0 (by rw [nats_length, nats_length, hl])
  rwa [Nat.xor_self] at this
theorem xors_l1 (X A : List Int) (hA : isLv A) (hX : isLv X) (s2 : Nat) (hs2 : s2 < 32768) (hlen : A.length ≤ 200) (hc : crcN X = crcN A ^^^ s2) (d : Nat) : ∀ (k i : Nat), A.length - i = d → i ≤ A.length → d < k →
    magnetolaw02_Crc15Xors.l1 k X A ((crcN (A.take i) : Nat) : Int) ((crcN A : Nat) : Int) (s2 : Int) (i : Int) = some true := by
  induction d with
  | zero =>
    intro k i hd hi hk
    obtain ⟨k, rfl⟩ : ∃ m, k = m + 1 := ⟨k - 1, by omega⟩
    simp only [magnetolaw02_Crc15Xors.l1]
    rw [if_neg (by omega), List.take_of_length_le (by omega), sum_lv hX]
    simp only [Option.bind_some]
    have hA' := crcN_lt A
    rw [if_pos trivial, i64_xor_nat _ _ (by omega) (by omega), if_pos (by rw [hc]), if_pos trivial, awake02]
    rfl
  | succ d ih =>
    intro k i hd hi hk
    obtain ⟨k, rfl⟩ : ∃ m, k = m + 1 := ⟨k - 1, by omega⟩
    have hi' : i < A.length := by omega
    have hx := rd_lv hA i hi'
    have hnext := ih k (i + 1) (by omega) (by omega) (by omega)
    obtain ⟨x, hxe⟩ := Int.eq_ofNat_of_zero_le (show 0 ≤ rd A (i : Int) by omega)
    have hc : crcN (A.take (i + 1)) = stepN (crcN (A.take i)) x := by
      rw [List.take_succ_eq_append_getElem hi', ← rd_at A i hi']
      unfold crcN
      rw [nats_append, sumN_append, hxe]
      rfl
    rw [hc] at hnext
    simp only [magnetolaw02_Crc15Xors.l1]
    rw [if_pos (by omega), if_pos (by omega), hxe, step_yes _ x (crcN_lt _) (by omega), wrap_in (by omega) (by omega)]
    simp only [Option.bind_some]
    rw [if_pos trivial, show (i : Int) + 1 = ((i + 1 : Nat) : Int) by omega]
    exact hnext
theorem xors_j2 (A B : List Int) (hl : A.length = B.length) (hlen : A.length ≤ 200) : ∀ k, 900 < k → magnetolaw02_Crc15Xors.j2 k (List.zipWith xorI A B) A B 0 = some true := by
  intro k hk
  obtain ⟨k, rfl⟩ : ∃ m, k = m + 1 := ⟨k - 1, by omega⟩
  obtain ⟨k, rfl⟩ : ∃ m, k = m + 1 := ⟨k - 1, by omega⟩
  simp only [magnetolaw02_Crc15Xors.j2]
  by_cases hA : isLv A
  · by_cases hB : isLv B
    · rw [sum_lv hA, sum_lv hB]
      simp only [Option.bind_some]
      rw [if_pos trivial]
      simp only [magnetolaw02_Crc15Xors.j3]
      rw [if_neg (by simp)]
      exact xors_l1 _ A hA (xorI_rows A B hA hB).1 _ (crcN_lt B) hlen (crcN_xor hA hB hl) A.length k 0 (by omega) (by omega) (by omega)
    · rw [sum_lv hA, sum_no hB]
      simp only [Option.bind_some]
      rw [if_pos trivial]
      simp only [magnetolaw02_Crc15Xors.j3]
      rw [if_pos (by simp), if_pos trivial, if_neg (by omega), if_pos trivial, awake02]
      rfl
  · have h2 : ∃ v e, crc15_Sum.f B = some (v, e) ∧ (e = 0 ∨ v = 0) := by
      by_cases hB : isLv B
      · exact ⟨_, _, sum_lv hB, .inl rfl⟩
      · exact ⟨_, _, sum_no hB, .inr rfl⟩
    obtain ⟨v, e, h2, h3⟩ := h2
    rw [sum_no hA, h2]
    simp only [Option.bind_some]
    rw [if_neg (by omega)]
    simp only [magnetolaw02_Crc15Xors.j3]
    rw [if_pos trivial, if_neg (by omega), if_pos trivial]
    by_cases he : e = 0
    · rw [if_pos he, awake02]
      rfl
    · rw [if_neg he, if_pos (by omega), awake02]
      rfl
theorem zip_take (a b : List Int) (n : Nat) (h1 : n ≤ a.length) (h2 : n ≤ b.length) (h : a.length ≤ n ∨ b.length ≤ n) : List.zipWith xorI a b = List.zipWith xorI (a.take n) (b.take n) := by
  rw [← List.take_zipWith, List.take_of_length_le]
  rw [List.length_zipWith]
  omega
theorem xors_l0 (a b : List Int) (ha : a.length ≤ 200) (hb : b.length ≤ 200) (d : Nat) : ∀ (k i : Nat), min a.length b.length - i = d → i ≤ min a.length b.length → 901 + d < k →
    magnetolaw02_Crc15Xors.l0 k (List.zipWith xorI (a.take i) (b.take i)) (a.take i) (b.take i) 0 (i : Int) a b = some true := by
  induction d with
  | zero =>
    intro k i hd hi hk
    obtain ⟨k, rfl⟩ : ∃ m, k = m + 1 := ⟨k - 1, by omega⟩
    have hj := xors_j2 (a.take i) (b.take i) (by rw [List.length_take, List.length_take]; omega) (by rw [List.length_take]; omega) k (by omega)
    simp only [magnetolaw02_Crc15Xors.l0]
    by_cases h : (i : Int) < (a.length : Int)
    · rw [if_pos h, if_neg (by omega)]
      exact hj
    · rw [if_neg h]
      exact hj
  | succ d ih =>
    intro k i hd hi hk
    obtain ⟨k, rfl⟩ : ∃ m, k = m + 1 := ⟨k - 1, by omega⟩
    have h1 : i < a.length := by omega
    have h2 : i < b.length := by omega
    have hnext := ih k (i + 1) (by omega) (by omega) (by omega)
    rw [List.take_succ_eq_append_getElem h1, List.take_succ_eq_append_getElem h2, List.zipWith_append (by rw [List.length_take, List.length_take]; omega), ← rd_at a i h1, ← rd_at b i h2] at hnext
    simp only [magnetolaw02_Crc15Xors.l0]
    rw [if_pos (by omega), if_pos (by omega), if_pos (by omega), if_pos (by rw [List.length_take]; omega), if_pos (by rw [List.length_take]; omega), if_pos (by rw [List.length_zipWith, List.length_take, List.length_take]; omega), wrap_in (by omega) (by omega), show (i : Int) + 1 = ((i + 1 : Nat) : Int) by omega]
    exact hnext
theorem Crc15Xors : magnetolaw02_Crc15Xors.Pure := by
  intro a b _ _ _ _
  obtain ⟨k, hk⟩ : ∃ k : Nat, k = 3000 := ⟨_, rfl⟩
  refine ⟨k, ?_⟩
  obtain ⟨k, rfl⟩ : ∃ m, k = m + 1 := ⟨k - 1, by omega⟩
  unfold magnetolaw02_Crc15Xors.f
  by_cases hl : (a.length : Int) > 200
  · rw [if_pos hl]
    simp only [magnetolaw02_Crc15Xors.j0]
    rw [if_pos trivial, awake02]
    rfl
  · rw [if_neg hl]
    by_cases hb : (b.length : Int) > 200
    · rw [decide_eq_true hb]
      simp only [magnetolaw02_Crc15Xors.j0]
      rw [if_pos trivial, awake02]
      rfl
    · rw [decide_eq_false hb]
      simp only [magnetolaw02_Crc15Xors.j0]
      rw [if_neg (by simp)]
      exact xors_l0 a b (by omega) (by omega) (min a.length b.length) k 0 (by omega) (by omega) (by omega)
end Go.Proofs.Ytclmogjmmcjppaa.Pure
