/- Layer 2's functions, as far as a field's laws reach them, in plain numbers. -/
import Derived.Test.YtakemodmdhglnaaPAx10
import Derived.Test.YtakemodmdhglnaaPAx11
import Derived.Test.YtakemodmdhglnaaPAx27
import Derived.Test.YtakemodmdhglnaaQBitsB
import Derived.Test.YtakemodmdhglnaaQCrcCore
namespace Go.Proofs.Ytakemodmdhglnaa.Pure
open Go.RowKit Go.Proofs.Ytakemodmdhglnaa.PA Go.Proofs.YtakemodmdhglnaaW.PrintWords Go.Proofs.YtakemodmdhglnaaW.PrintLast Go.Proofs.YtakemodmdhglnaaW.PrintMore
theorem i64_wraps (n : Int) (h0 : 0 ≤ n) (h1 : n < 2 ^ 62) : IntKind.i64.wrap n = n := by rw [IntKind.wrap_i64]; omega
theorem i64_and_nat (a b : Nat) (ha : a < 2 ^ 62) (hb : b < 2 ^ 62) : Go.bits .and .i64 (a : Int) (b : Int) = ((a &&& b : Nat) : Int) :=
  (bits_nat .i64 62 (by decide) i64_wraps a b ha hb).1
theorem i64_xor_nat (a b : Nat) (ha : a < 2 ^ 62) (hb : b < 2 ^ 62) : Go.bits .xor .i64 (a : Int) (b : Int) = ((a ^^^ b : Nat) : Int) := by
  have hp : (2 : Nat) ^ 62 ≤ 2 ^ IntKind.i64.bits := by decide
  have ha' : a % 2 ^ IntKind.i64.bits = a := Nat.mod_eq_of_lt (Nat.lt_of_lt_of_le ha hp)
  have hb' : b % 2 ^ IntKind.i64.bits = b := Nat.mod_eq_of_lt (Nat.lt_of_lt_of_le hb hp)
  have hx : a ^^^ b < 2 ^ 62 := Nat.xor_lt_two_pow ha hb
  simp only [Go.bits, BitVec.ofInt_natCast, BitVec.toNat_xor, BitVec.toNat_ofNat, ha', hb']
  exact i64_wraps _ (Int.natCast_nonneg _) (by exact_mod_cast hx)
theorem crcStep_nat (s x : Nat) (hs : s < 32768) (hx : x < 2) : crcStep (s : Int) (x : Int) = (stepN s x : Nat) := by
  unfold crcStep crc15_step.f stepN
  have e0 : Go.bits .and .i64 (s : Int) 16384 = ((s &&& 16384 : Nat) : Int) := i64_and_nat s 16384 (by omega) (by decide)
  have e1 : s &&& 16384 = s / 16384 % 2 * 16384 := nat_bit 14 s
  have e2 : wrap64 ((s : Int) * 2) = ((2 * s : Nat) : Int) := by rw [wrap_in (by omega) (by omega)]; omega
  have e3 : Go.bits .and .i64 ((2 * s : Nat) : Int) 32767 = ((2 * s % 32768 : Nat) : Int) := by
    rw [show (32767 : Int) = ((32767 : Nat) : Int) from rfl, i64_and_nat (2 * s) 32767 (by omega) (by decide), Nat.and_two_pow_sub_one_eq_mod (2 * s) 15]
  have e4 : Go.bits .xor .i64 ((2 * s % 32768 : Nat) : Int) 17817 = ((2 * s % 32768 ^^^ 17817 : Nat) : Int) := i64_xor_nat _ 17817 (by omega) (by decide)
  rw [e0, e1, e2, e3, e4]
  have hq : s / 16384 < 2 := by omega
  have ht : ((((s / 16384 % 2 * 16384 : Nat) : Int) != 0) != ((x : Int) == 1)) = decide ((s / 16384 + x) % 2 = 1) := by
    generalize s / 16384 = q at hq
    match q, x, hq, hx with
    | 0, 0, _, _ => rfl
    | 0, 1, _, _ => rfl
    | 1, 0, _, _ => rfl
    | 1, 1, _, _ => rfl
  rw [ht]
  by_cases h : (s / 16384 + x) % 2 = 1
  · rw [if_pos (decide_eq_true h), if_pos h]
    rfl
  · rw [if_neg (by simpa using h), if_neg h, Nat.xor_zero]
    rfl
/-- Levels as natural numbers. -/
def nats (l : List Int) : List Nat := l.map Int.toNat
theorem nats_append (a b : List Int) : nats (a ++ b) = nats a ++ nats b := List.map_append
theorem nats_length (l : List Int) : (nats l).length = l.length := List.length_map _
theorem crcFold_nat (l : List Int) (h : isLv l) : ∀ s : Nat, s < 32768 → l.foldl crcStep (s : Int) = (sumN s (nats l) : Nat) := by
  induction l with
  | nil => intro s _; rfl
  | cons x t ih =>
    intro s hs
    rw [isLv_cons] at h
    obtain ⟨m, rfl⟩ := Int.eq_ofNat_of_zero_le (show 0 ≤ x by omega)
    simp only [List.foldl_cons, nats, List.map_cons, sumN, Int.toNat_natCast]
    rw [crcStep_nat s m hs (by omega)]
    exact ih h.2 _ (stepN_lt s m)
/-- The sum of levels. -/
def crcN (l : List Int) : Nat := sumN 0 (nats l)
theorem crcN_lt (l : List Int) : crcN l < 32768 := sumN_lt _ 0 (by omega)
theorem sum_lv {l : List Int} (h : isLv l) : crc15_Sum.f l = some (((crcN l : Nat) : Int), 0) := by
  unfold crc15_Sum.f
  rw [chk_of_lv h, if_neg (by omega)]
  have := crcFold_nat l h 0 (by omega)
  rw [show ((0 : Nat) : Int) = 0 from rfl] at this
  rw [this]
  rfl
theorem sum_no {l : List Int} (h : ¬ isLv l) : crc15_Sum.f l = some (0, 10) := by
  unfold crc15_Sum.f
  rw [if_pos (chk_ge h).1]
theorem bits_yes (s : Nat) (hs : s < 32768) {k : Nat} (hk : 16 < k) : crc15_Bits.f k (s : Int) = some (ofI (s : Int) 15, 0) := by
  unfold crc15_Bits.f
  have hm : crc15_may.f (s : Int) = some true := by
    unfold crc15_may.f
    rw [if_pos (by omega), decide_eq_true (by omega)]
  rw [hm]
  simp only [Option.bind_some, if_true]
  rw [u64_wrap (by omega) (by omega)]
  have := of_yes (s : Int) 15 (by omega) (by omega) (by omega) hk
  rw [show ((15 : Nat) : Int) = 15 from rfl] at this
  rw [this]
  rfl
theorem bits_no (s : Int) (h : s < 0 ∨ 32767 < s) (k : Nat) : crc15_Bits.f k s = some ([], 10) := by
  unfold crc15_Bits.f
  have hm : crc15_may.f s = some false := by
    unfold crc15_may.f
    by_cases h0 : s ≥ 0
    · rw [if_pos h0, decide_eq_false (by omega)]
    · rw [if_neg h0]
  rw [hm]
  simp
theorem nats_ofI (w : Nat) : ∀ n : Nat, nats (ofI (n : Int) w) = bitsN n w := by
  induction w with
  | zero => intro n; rfl
  | succ w ih =>
    intro n
    rw [ofI, nats_append, bitsN, show (n : Int) / 2 = ((n / 2 : Nat) : Int) by omega, ih]
    congr 1
theorem equal_l0 (a b : List Int) (hab : a.length = b.length) (hl : a.length ≤ 1000000000000) (d : Nat) : ∀ (k i : Nat), a.length - i = d → d < k →
    slices_Equal_int_int.l0 k a b (a.length : Int) (i : Int) = some (decide (a.drop i = b.drop i)) := by
  induction d with
  | zero =>
    intro k i hd hk
    obtain ⟨k, rfl⟩ : ∃ m, k = m + 1 := ⟨k - 1, by omega⟩
    simp only [slices_Equal_int_int.l0]
    rw [if_neg (by omega), List.drop_eq_nil_of_le (by omega), List.drop_eq_nil_of_le (by omega)]
    simp
  | succ d ih =>
    intro k i hd hk
    obtain ⟨k, rfl⟩ : ∃ m, k = m + 1 := ⟨k - 1, by omega⟩
    have hi : i < a.length := by omega
    have hi' : i < b.length := by omega
    simp only [slices_Equal_int_int.l0]
    rw [if_pos (by omega), if_pos (by omega), if_pos (by omega), if_pos (by omega), wrap_in (by omega) (by omega)]
    rw [List.drop_eq_getElem_cons hi, List.drop_eq_getElem_cons hi', rd_at a i hi, rd_at b i hi']
    by_cases h : a[i] = b[i]
    · rw [if_pos h, show (i : Int) + 1 = ((i + 1 : Nat) : Int) from by omega, ih k (i + 1) (by omega) (by omega)]
      simp only [List.cons.injEq, h, true_and]
    · rw [if_neg h]
      simp only [List.cons.injEq, h, false_and, decide_false]
theorem equal_eq (a b : List Int) (hl : a.length ≤ 1000000000000) {k : Nat} (hk : a.length < k) : slices_Equal_int_int.f k a b = some (decide (a = b)) := by
  unfold slices_Equal_int_int.f
  by_cases h : a.length = b.length
  · rw [if_pos (by omega)]
    have := equal_l0 a b h hl a.length k 0 (by omega) hk
    simpa using this
  · rw [if_neg (by omega)]
    have : a ≠ b := fun e => h (by rw [e])
    simp [this]
/-- Are levels with their sum behind them right? -/
def rightB (l : List Int) : Bool := decide (15 ≤ l.length) && decide (isLv l) && decide (l.drop (l.length - 15) = ofI (crcN (l.take (l.length - 15)) : Nat) 15)
theorem right_eq (l : List Int) (hl : l.length ≤ 1000000000) {k : Nat} (hk : l.length + 20 < k) : crc15_Right.f k l = some (rightB l) := by
  obtain ⟨k, rfl⟩ : ∃ m, k = m + 1 := ⟨k - 1, by omega⟩
  unfold crc15_Right.f rightB
  rw [wrap_in (by omega) (by omega)]
  by_cases h15 : 15 ≤ l.length
  · rw [if_neg (by omega), check_eq, decide_eq_true h15]
    simp only [Option.bind_some]
    by_cases hlv : isLv l
    · rw [chk_of_lv hlv, decide_eq_false (by omega), decide_eq_true hlv]
      simp only [crc15_Right.j0]
      rw [if_neg (by simp), if_pos (by omega), if_pos (by omega), show ((l.length : Int) - 15).toNat = l.length - 15 by omega, sum_lv (isLv_take hlv _)]
      simp only [Option.bind_some]
      rw [bits_yes _ (crcN_lt _) (by omega)]
      simp only [Option.bind_some]
      rw [equal_eq _ _ (by rw [List.length_drop]; omega) (by rw [List.length_drop]; omega)]
      simp
    · rw [decide_eq_true (chk_ge hlv).1, decide_eq_false hlv]
      simp [crc15_Right.j0]
  · rw [if_pos (by omega), decide_eq_false h15]
    simp [crc15_Right.j0]
theorem rightB_append (l b : List Int) (hb : b.length = 15) : rightB (l ++ b) = (decide (isLv l) && decide (isLv b) && decide (b = ofI (crcN l : Nat) 15)) := by
  unfold rightB
  have h1 : (l ++ b).length - 15 = l.length := by rw [List.length_append]; omega
  rw [h1, List.drop_left, List.take_left, decide_eq_true (by rw [List.length_append]; omega)]
  simp only [Bool.true_and]
  congr 1
  simp [isLv_append]
theorem crcN_append_bits (l : List Int) (c : Nat) : crcN (l ++ ofI (c : Int) 15) = sumN (crcN l) (bitsN c 15) := by
  unfold crcN
  rw [nats_append, sumN_append, nats_ofI]
end Go.Proofs.Ytakemodmdhglnaa.Pure
