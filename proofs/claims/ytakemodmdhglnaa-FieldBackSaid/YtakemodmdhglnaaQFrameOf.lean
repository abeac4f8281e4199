/- The frame that levels are, as the program tells it. -/
import Derived.Test.YtakemodmdhglnaaQFrameS
import Derived.Test.YtakemodmdhglnaaQCrcB
import Derived.Test.YtakemodmdhglnaaQField
import Derived.Test.YtakemodmdhglnaaPAx19
namespace Go.Proofs.Ytakemodmdhglnaa.Pure
open Go.RowKit Go.Proofs.Ytakemodmdhglnaa.PA Go.Proofs.YtakemodmdhglnaaW.PrintWords Go.Proofs.YtakemodmdhglnaaW.PrintLast Go.Proofs.YtakemodmdhglnaaW.PrintMore

theorem fvalue_lv {l : List Int} (h : isLv l) (hl : l.length ≤ 40) {k : Nat} (hk : l.length < k) : field_value.f k l = some (valI l) := by
  have hb := valI_bounds h
  have hp := pow_le hl
  have h40 : (2 : Int) ^ 40 = 1099511627776 := by decide
  unfold field_value.f
  rw [value_lv h (by omega) hk]
  simp only [Option.bind_some]
  rw [wrap_in (by omega) (by omega)]
theorem cut_bounds {l : List Int} (h : isLv l) (a b : Nat) (hb : b ≤ l.length) : 0 ≤ valI (cut l a b) ∧ valI (cut l a b) < 2 ^ (b - a) := by
  have := valI_bounds (cut_lv h a b)
  rwa [cut_length l a b hb] at this
theorem or_split (a b : Int) (ha : 0 ≤ a) (ha' : a < 2048) (hb : 0 ≤ b) (hb' : b < 262144) : Go.bits .or .i64 (a * 262144) b = 262144 * a + b := by
  obtain ⟨m, rfl⟩ := Int.eq_ofNat_of_zero_le ha
  obtain ⟨n, rfl⟩ := Int.eq_ofNat_of_zero_le hb
  have h := (bits_nat .i64 62 (by decide) i64_wraps (m * 262144) n (by omega) (by omega)).2
  have e : ((m * 262144 : Nat) : Int) = (m : Int) * 262144 := by omega
  rw [e] at h
  rw [h]
  have h2 := Nat.two_pow_add_eq_or_of_lt (i := 18) (b := n) (by omega) m
  rw [show (2 : Nat) ^ 18 = 262144 from by decide] at h2
  rw [Nat.mul_comm m, ← h2]
  omega
/-- A byte of the data: from a place on those are read, ahead of it they stay. -/
def gB (n : Nat) (B : Nat → Int) (i j : Nat) (b : Int) : Int := if i ≤ j ∧ j < n then B j else b
theorem gB_step {n i : Nat} (B : Nat → Int) (j : Nat) (J : Int) (hJ : J = (j : Int)) (b v : Int) (hi : i < n) (hv : v = B i) : gB n B (i + 1) j (pk (i : Int) J v b) = gB n B i j b := by
  subst hJ
  unfold gB pk
  by_cases c1 : i = j
  · subst c1
    rw [if_neg (by omega), if_pos rfl, if_pos (by omega), hv]
  · by_cases c2 : i + 1 ≤ j ∧ j < n
    · rw [if_pos c2, if_pos (by omega)]
    · rw [if_neg c2, if_neg (by omega), if_neg (by omega)]
/-- Where the data begin. -/
def dataAt (l : List Int) : Nat := if rd l 13 = 1 then 39 else 19
def byteN (l : List Int) (j : Nat) : Int := valI (cut l (dataAt l + 8 * j) (dataAt l + 8 * j + 8))
theorem byte_range {l : List Int} (h : isLv l) (a : Nat) (hb : a + 8 ≤ l.length) : 0 ≤ valI (cut l a (a + 8)) ∧ valI (cut l a (a + 8)) < 256 := by
  have := cut_bounds h a (a + 8) hb
  rwa [show a + 8 - a = 8 from by omega] at this
theorem fframe_l0 {l : List Int} (h : isLv l) (hl : l.length ≤ 300) (at_ n : Nat) (hn : at_ + 8 * n ≤ l.length) (hn8 : n ≤ 8) (x0 x1 : Bool) (x2 x4 : Int) (id : Int) (ext rtr : Bool) (len : Int) (B : Nat → Int) (hB : ∀ j, B j = valI (cut l (at_ + 8 * j) (at_ + 8 * j + 8))) (d : Nat) : ∀ (k i : Nat) (b0 b1 b2 b3 b4 b5 b6 b7 : Int), n - i = d → i ≤ n → d + 20 < k →
    field_Frame.l0 k l (n : Int) (i : Int) x0 x1 x2 (at_ : Int) x4 id ext rtr len b0 b1 b2 b3 b4 b5 b6 b7 = some (id, ext, rtr, len, gB n B i 0 b0, gB n B i 1 b1, gB n B i 2 b2, gB n B i 3 b3, gB n B i 4 b4, gB n B i 5 b5, gB n B i 6 b6, gB n B i 7 b7, 0) := by
  induction d with
  | zero =>
    intro k i b0 b1 b2 b3 b4 b5 b6 b7 hd hi hk
    obtain ⟨k, rfl⟩ : ∃ m, k = m + 1 := ⟨k - 1, by omega⟩
    simp only [field_Frame.l0]
    rw [if_neg (by omega)]
    have e : ∀ j b, gB n B i j b = b := fun j b => by unfold gB; rw [if_neg (by omega)]
    simp only [e]
  | succ d ih =>
    intro k i b0 b1 b2 b3 b4 b5 b6 b7 hd hi hk
    obtain ⟨k, rfl⟩ : ∃ m, k = m + 1 := ⟨k - 1, by omega⟩
    have e1 : wrap64 ((at_ : Int) + wrap64 (8 * (i : Int))) = ((at_ + 8 * i : Nat) : Int) := by
      rw [wrap_in (x := 8 * _) (by omega) (by omega), wrap_in (by omega) (by omega)]
      omega
    have e2 : wrap64 ((at_ : Int) + wrap64 (8 * wrap64 ((i : Int) + 1))) = ((at_ + 8 * i + 8 : Nat) : Int) := by
      rw [wrap_in (x := (i : Int) + 1) (by omega) (by omega), wrap_in (x := 8 * _) (by omega) (by omega), wrap_in (by omega) (by omega)]
      omega
    have hr := byte_range h (at_ + 8 * i) (by omega)
    simp only [field_Frame.l0]
    rw [e1, e2, if_pos (by omega), if_pos (by omega), if_pos (by omega), if_pos (by omega)]
    rw [Int.toNat_natCast, Int.toNat_natCast, show (l.take (at_ + 8 * i + 8)).drop (at_ + 8 * i) = cut l (at_ + 8 * i) (at_ + 8 * i + 8) from rfl, fvalue_lv (cut_lv h _ _) (by rw [cut_length _ _ _ (by omega)]; omega) (by rw [cut_length _ _ _ (by omega)]; omega)]
    simp only [Option.bind_some]
    rw [if_pos (by omega), if_pos (by omega), wrap_in (by omega) (by omega), Int.emod_eq_of_lt hr.1 hr.2, show (i : Int) + 1 = ((i + 1 : Nat) : Int) from by omega, ih k (i + 1) _ _ _ _ _ _ _ _ (by omega) (by omega) (by omega)]
    rw [gB_step (n := n) (i := i) B 0 0 rfl b0 _ (by omega) (hB i).symm, gB_step (n := n) (i := i) B 1 1 rfl b1 _ (by omega) (hB i).symm, gB_step (n := n) (i := i) B 2 2 rfl b2 _ (by omega) (hB i).symm, gB_step (n := n) (i := i) B 3 3 rfl b3 _ (by omega) (hB i).symm, gB_step (n := n) (i := i) B 4 4 rfl b4 _ (by omega) (hB i).symm, gB_step (n := n) (i := i) B 5 5 rfl b5 _ (by omega) (hB i).symm, gB_step (n := n) (i := i) B 6 6 rfl b6 _ (by omega) (hB i).symm, gB_step (n := n) (i := i) B 7 7 rfl b7 _ (by omega) (hB i).symm]
/-- What a frame is told as, with an error. -/
def frT (F : Fr) (e : Int) : Int × Bool × Bool × Int × Int × Int × Int × Int × Int × Int × Int × Int × Int := (F.id, F.ext, F.rtr, F.len, F.b0, F.b1, F.b2, F.b3, F.b4, F.b5, F.b6, F.b7, e)
def noFr : Fr := ⟨0, false, false, 0, 0, 0, 0, 0, 0, 0, 0, 0⟩
def idOf (l : List Int) : Int := if rd l 13 = 1 then 262144 * valI (cut l 1 12) + valI (cut l 14 32) else valI (cut l 1 12)
def rtrOf (l : List Int) : Bool := (if rd l 13 = 1 then rd l 32 else rd l 12) == 1
/-- How many bytes there are. -/
def nB (l : List Int) : Nat := if rtrOf l = true then 0 else (bytesOf l).toNat
/-- The frame of levels. -/
def frOf (l : List Int) : Fr := ⟨idOf l, rd l 13 == 1, rtrOf l, bytesOf l, gB (nB l) (byteN l) 0 0 0, gB (nB l) (byteN l) 0 1 0, gB (nB l) (byteN l) 0 2 0, gB (nB l) (byteN l) 0 3 0, gB (nB l) (byteN l) 0 4 0, gB (nB l) (byteN l) 0 5 0, gB (nB l) (byteN l) 0 6 0, gB (nB l) (byteN l) 0 7 0⟩
theorem dl_nB {l : List Int} (h : isLv l) (hw : whole l) : dl l = 8 * (nB l : Int) ∧ nB l ≤ 8 := by
  have hb := bytes_bounds h hw
  unfold dl nB rtrOf
  by_cases c : (if rd l 13 = 1 then rd l 32 else rd l 12) = 1
  · rw [if_pos c, if_pos (by rw [c]; rfl)]
    exact ⟨rfl, by omega⟩
  · rw [if_neg c, if_neg (by simpa using c)]
    omega
/-- What levels are told as. -/
def frRes (l : List Int) : Int × Bool × Bool × Int × Int × Int × Int × Int × Int × Int × Int × Int × Int :=
  if ¬ whole l ∨ (l.length : Int) < aheadN l then frT noFr 13 else if rd l 0 = 0 then frT (frOf l) 0 else frT noFr 11
theorem fframe_lv {l : List Int} (h : isLv l) (hl : l.length ≤ 300) {k : Nat} (hk : 100 ≤ k) : field_Frame.f k l = some (frRes l) := by
  unfold field_Frame.f frRes
  rw [ahead_eq h]
  simp only [Option.bind_some]
  by_cases hw : whole l
  · simp only [if_pos hw, if_true]
    by_cases hs : (l.length : Int) < aheadN l
    · rw [if_pos hs, if_pos (.inr hs)]
      rfl
    · rw [if_neg hs, if_neg (c := ¬ whole l ∨ (l.length : Int) < aheadN l) (not_or.mpr ⟨fun e => e hw, hs⟩)]
      have h13 := hw.1
      rw [if_pos (by omega)]
      by_cases h0 : rd l 0 = 0
      · have hd := dl_nB h hw
        have hb := bytes_bounds h hw
        have hd0 : 0 ≤ dl l := by rw [hd.1]; omega
        have v1 := fvalue_lv (cut_lv h 1 12) (by rw [cut_length _ _ _ (by omega)]; omega) (k := k) (by rw [cut_length _ _ _ (by omega)]; omega)
        have r1 := cut_bounds h 1 12 (by omega)
        rw [show (12 - 1 : Nat) = 11 from rfl, show (2 : Int) ^ 11 = 2048 from by decide] at r1
        rw [if_pos h0, if_pos h0, read_eq h]
        simp only [Option.bind_some]
        rw [if_pos (by omega), show (l.take 12).drop 1 = cut l 1 12 from rfl, v1]
        simp only [Option.bind_some]
        obtain ⟨k, rfl⟩ : ∃ m, k = m + 1 := ⟨k - 1, by omega⟩
        by_cases c : rd l 13 = 1
        · have hn := hw.2
          rw [if_pos c] at hn
          have v2 := fvalue_lv (cut_lv h 14 32) (by rw [cut_length _ _ _ (by omega)]; omega) (k := k + 1) (by rw [cut_length _ _ _ (by omega)]; omega)
          have r2 := cut_bounds h 14 32 (by omega)
          rw [show (32 - 14 : Nat) = 18 from rfl, show (2 : Int) ^ 18 = 262144 from by decide] at r2
          have ha : aheadN l = 39 + dl l := by unfold aheadN; rw [if_pos c]
          rw [fh_w1 c hn]
          simp only [if_true]
          rw [if_pos (by omega), show (l.take 32).drop 14 = cut l 14 32 from rfl, v2]
          simp only [Option.bind_some]
          rw [wrap_in (x := _ * 262144) (by omega) (by omega), or_split _ _ r1.1 r1.2 r2.1 r2.2]
          simp only [field_Frame.j0]
          have e : wrap64 (Int.tdiv (wrap64 (aheadN l - 39)) 8) = ((nB l : Nat) : Int) := by
            rw [ha, hd.1, wrap_in (x := _ - 39) (by omega) (by omega), show (39 : Int) + 8 * (nB l : Int) - 39 = 8 * (nB l : Int) from by omega, Int.tdiv_eq_ediv_of_nonneg (by omega), wrap_in (by omega) (by omega)]
            omega
          have hl0 := fframe_l0 h hl 39 (nB l) (by omega) hd.2 true (rd l 32 == 1) 33 (bytesOf l) (262144 * valI (cut l 1 12) + valI (cut l 14 32)) true (rd l 32 == 1) (bytesOf l) (byteN l) (fun j => by unfold byteN dataAt; rw [if_pos c]) (nB l) k 0 0 0 0 0 0 0 0 0 (by omega) (by omega) (by omega)
          rw [e]
          refine hl0.trans ?_
          unfold frT frOf idOf rtrOf
          simp only [if_pos c, c]
          rfl
        · have hn := hw.2
          rw [if_neg c] at hn
          have ha : aheadN l = 19 + dl l := by unfold aheadN; rw [if_neg c]
          rw [fh_w0 c hn]
          simp only
          rw [if_neg (by decide)]
          simp only [field_Frame.j0]
          have e : wrap64 (Int.tdiv (wrap64 (aheadN l - 19)) 8) = ((nB l : Nat) : Int) := by
            rw [ha, hd.1, wrap_in (x := _ - 19) (by omega) (by omega), show (19 : Int) + 8 * (nB l : Int) - 19 = 8 * (nB l : Int) from by omega, Int.tdiv_eq_ediv_of_nonneg (by omega), wrap_in (by omega) (by omega)]
            omega
          have hl0 := fframe_l0 h hl 19 (nB l) (by omega) hd.2 false (rd l 12 == 1) 14 (bytesOf l) (valI (cut l 1 12)) false (rd l 12 == 1) (bytesOf l) (byteN l) (fun j => by unfold byteN dataAt; rw [if_neg c]) (nB l) k 0 0 0 0 0 0 0 0 0 (by omega) (by omega) (by omega)
          rw [e]
          refine hl0.trans ?_
          unfold frT frOf idOf rtrOf
          simp only [if_neg c]
          rw [show (rd l 13 == 1) = false from by simpa using c]
      · rw [if_neg h0, if_neg h0]
        rfl
  · simp only [if_neg hw]
    rw [if_neg (by decide), if_pos (.inl hw)]
    rfl
theorem fframe_no {l : List Int} (h : ¬ isLv l) (k : Nat) : field_Frame.f k l = some (frT noFr 10) := by
  unfold field_Frame.f
  rw [ahead_no h]
  simp only [Option.bind_some]
  rw [if_neg (by decide)]
  rfl
end Go.Proofs.Ytakemodmdhglnaa.Pure
