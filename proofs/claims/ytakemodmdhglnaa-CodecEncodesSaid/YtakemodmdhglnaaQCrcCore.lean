/- The sum of levels, in plain numbers: how it goes on by a level; that it is linear; what turns it. No program in sight. -/
import Derived.Test.YtakemodmdhglnaaQCore
namespace Go.Proofs.Ytakemodmdhglnaa.Pure

/-- The sum behind a level. -/
def stepN (s x : Nat) : Nat := ((2 * s) % 32768) ^^^ (if (s / 16384 + x) % 2 = 1 then 17817 else 0)
theorem stepN_lt (s x : Nat) : stepN s x < 32768 := by
  unfold stepN
  refine Nat.xor_lt_two_pow (n := 15) (by omega) ?_
  split <;> omega
theorem xor_parity (a b : Nat) : (a ^^^ b) % 2 = (a + b) % 2 := by
  have h := Nat.xor_mod_two_pow (a := a) (b := b) (n := 1)
  rw [show (2 : Nat) ^ 1 = 2 from rfl] at h
  rw [h]
  rcases Nat.mod_two_eq_zero_or_one a with ha | ha <;> rcases Nat.mod_two_eq_zero_or_one b with hb | hb <;> rw [ha, hb] <;> simp <;> omega
theorem xor_cancel {a b c : Nat} (h : a ^^^ c = b ^^^ c) : a = b := by
  have := congrArg (· ^^^ c) h
  simpa [Nat.xor_assoc] using this
theorem stepN_parity (s x : Nat) : stepN s x % 2 = (s / 16384 + x) % 2 := by
  unfold stepN
  rw [xor_parity]
  split <;> omega
/-- No two sums go on to one by one level. -/
theorem stepN_inj {a b x : Nat} (ha : a < 32768) (hb : b < 32768) (h : stepN a x = stepN b x) : a = b := by
  have hp : (a / 16384 + x) % 2 = (b / 16384 + x) % 2 := by rw [← stepN_parity, ← stepN_parity, h]
  unfold stepN at h
  rw [hp] at h
  have := xor_cancel h
  omega
theorem stepN_other (s x : Nat) (hx : x < 2) : stepN s x ^^^ stepN s (1 - x) = 17817 := by
  unfold stepN
  have hc : ∀ u v w : Nat, (u ^^^ v) ^^^ (u ^^^ w) = v ^^^ w := by
    intro u v w
    rw [Nat.xor_comm u v, Nat.xor_assoc, ← Nat.xor_assoc u u w, Nat.xor_self, Nat.zero_xor]
  rw [hc]
  by_cases h : (s / 16384 + x) % 2 = 1
  · rw [if_pos h, if_neg (by omega), Nat.xor_zero]
  · rw [if_neg h, if_pos (by omega), Nat.zero_xor]
theorem two_xor (a b : Nat) : 2 * (a ^^^ b) = 2 * a ^^^ 2 * b := by
  have := Nat.shiftLeft_xor_distrib (a := a) (b := b) (i := 1)
  simpa [Nat.shiftLeft_eq, Nat.mul_comm] using this
theorem mod_xor (a b : Nat) : (a ^^^ b) % 32768 = a % 32768 ^^^ b % 32768 := Nat.xor_mod_two_pow (n := 15)
theorem div_xor (a b : Nat) : (a ^^^ b) / 16384 = a / 16384 ^^^ b / 16384 := by
  have := Nat.shiftRight_xor_distrib (a := a) (b := b) (i := 14)
  simpa [Nat.shiftRight_eq_div_pow] using this
/-- The sum is linear. -/
theorem stepN_xor (a b x y : Nat) : stepN (a ^^^ b) (x ^^^ y) = stepN a x ^^^ stepN b y := by
  unfold stepN
  rw [two_xor, mod_xor, div_xor]
  have h1 : ((a / 16384 ^^^ b / 16384) + (x ^^^ y)) % 2 = ((a / 16384 + x) + (b / 16384 + y)) % 2 := by
    have e1 := xor_parity (a / 16384) (b / 16384)
    have e2 := xor_parity x y
    omega
  rw [h1]
  generalize a / 16384 + x = u
  generalize b / 16384 + y = v
  generalize 2 * a % 32768 = p
  generalize 2 * b % 32768 = q
  have hc : ∀ z w : Nat, p ^^^ q ^^^ (z ^^^ w) = p ^^^ z ^^^ (q ^^^ w) := by
    intro z w
    rw [Nat.xor_assoc, Nat.xor_assoc, ← Nat.xor_assoc q z w, Nat.xor_comm q z, Nat.xor_assoc z q w]
  by_cases hu : u % 2 = 1
  · by_cases hv : v % 2 = 1
    · rw [if_neg (by omega), if_pos hu, if_pos hv, ← hc, Nat.xor_self]
    · rw [if_pos (by omega), if_pos hu, if_neg hv, ← hc, Nat.xor_zero]
  · by_cases hv : v % 2 = 1
    · rw [if_pos (by omega), if_neg hu, if_pos hv, ← hc, Nat.zero_xor]
    · rw [if_neg (by omega), if_neg hu, if_neg hv, ← hc, Nat.xor_zero, Nat.xor_zero, Nat.xor_zero]
/-- The sum of levels, from a sum on. -/
def sumN (s : Nat) (l : List Nat) : Nat := l.foldl stepN s
theorem sumN_append (s : Nat) (a b : List Nat) : sumN s (a ++ b) = sumN (sumN s a) b := List.foldl_append
theorem sumN_snoc (s : Nat) (a : List Nat) (x : Nat) : sumN s (a ++ [x]) = stepN (sumN s a) x := by rw [sumN_append]; rfl
theorem sumN_lt (l : List Nat) : ∀ s, s < 32768 → sumN s l < 32768 := by
  induction l with
  | nil => intro s h; exact h
  | cons x t ih => intro s _; exact ih _ (stepN_lt s x)
theorem sumN_inj (l : List Nat) : ∀ {a b : Nat}, a < 32768 → b < 32768 → sumN a l = sumN b l → a = b := by
  induction l with
  | nil => intro a b _ _ h; exact h
  | cons x t ih => intro a b ha hb h; exact stepN_inj ha hb (ih (stepN_lt a x) (stepN_lt b x) h)
theorem sumN_xor (l : List Nat) : ∀ (m : List Nat) (a b : Nat), l.length = m.length → sumN (a ^^^ b) (List.zipWith (· ^^^ ·) l m) = sumN a l ^^^ sumN b m := by
  induction l with
  | nil =>
    intro m a b h
    obtain rfl := List.eq_nil_of_length_eq_zero h.symm
    rfl
  | cons x t ih =>
    intro m a b h
    cases m with
    | nil => simp at h
    | cons y u =>
      simp only [List.zipWith_cons_cons, sumN, List.foldl_cons]
      rw [stepN_xor]
      exact ih u _ _ (by simpa using h)
theorem sumN_zeros (n : Nat) : sumN 0 (List.replicate n 0) = 0 := by
  induction n with
  | zero => rfl
  | succ n ih => rw [List.replicate_succ]; exact ih
/-- A sum's own levels, the greatest one first. -/
def bitsN : Nat → Nat → List Nat
  | _, 0 => []
  | n, w + 1 => bitsN (n / 2) w ++ [n % 2]
/-- Behind its own w first levels a sum is shifted out by w. -/
theorem sum_own (w : Nat) : ∀ s, s < 32768 → w ≤ 15 → sumN s (bitsN (s / 2 ^ (15 - w)) w) = s * 2 ^ w % 32768 := by
  induction w with
  | zero => intro s hs _; simp [bitsN, sumN]; omega
  | succ w ih =>
    intro s hs hw
    have e1 : s / 2 ^ (15 - (w + 1)) / 2 = s / 2 ^ (15 - w) := by
      rw [Nat.div_div_eq_div_mul, show 15 - w = (15 - (w + 1)) + 1 by omega, Nat.pow_succ]
    rw [bitsN, sumN_snoc, e1, ih s hs (by omega)]
    unfold stepN
    -- the top level of the shifted sum is the one that comes
    have htop : s * 2 ^ w % 32768 / 16384 = s / 2 ^ (15 - (w + 1)) % 2 := by
      have hpw : 2 ^ w * 2 ^ (14 - w) = 16384 := by rw [← Nat.pow_add, show w + (14 - w) = 14 by omega]
      have hq : 15 - (w + 1) = 14 - w := by omega
      rw [hq]
      have h1 : s * 2 ^ w / 16384 = s / 2 ^ (14 - w) := by
        rw [← hpw, Nat.mul_comm s, Nat.mul_div_mul_left _ _ (Nat.two_pow_pos w)]
      omega
    rw [htop, if_neg (by omega), Nat.xor_zero, Nat.pow_succ]
    have : s * (2 ^ w * 2) = 2 * (s * 2 ^ w) := by rw [← Nat.mul_assoc, Nat.mul_comm]
    omega
theorem sum_self {s : Nat} (hs : s < 32768) : sumN s (bitsN s 15) = 0 := by
  have := sum_own 15 s hs (by omega)
  simp at this
  omega
theorem sum_bits_iff {s c : Nat} (hs : s < 32768) (hc : c < 32768) : sumN s (bitsN c 15) = 0 ↔ c = s := by
  constructor
  · intro h
    exact sumN_inj (bitsN c 15) hc hs ((sum_self hc).trans h.symm)
  · rintro rfl
    exact sum_self hc
end Go.Proofs.Ytakemodmdhglnaa.Pure
