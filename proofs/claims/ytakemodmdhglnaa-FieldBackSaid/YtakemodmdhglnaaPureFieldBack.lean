/- The pure statement of FieldBack, in plain Lean. -/
import Derived.Test.YtakemodmdhglnaaRFieldBack
import Derived.Test.YtakemodmdhglnaaQWhole
import Derived.Test.YtakemodmdhglnaaQAwake04
import Derived.Test.YtakemodmdhglnaaQInts04
import Derived.Test.YtakemodmdhglnaaPAx27
namespace Go.Proofs.Ytakemodmdhglnaa.Pure
open Go.RowKit Go.Proofs.Ytakemodmdhglnaa.PA Go.Proofs.YtakemodmdhglnaaW.PrintWords Go.Proofs.YtakemodmdhglnaaW.PrintLast

/-- Whether the sum in levels is right. -/
theorem fright_lv {l : List Int} (h : isLv l) (hl : l.length ≤ 300) (hw : whole l) (h15 : aheadN l + 15 ≤ l.length) {k : Nat} (hk : 400 ≤ k) : field_Right.f k l = some (rightB (l.take (aheadN l + 15).toNat), 0) := by
  have hd := dl_bounds h (by have := hw.2; split at this <;> omega) (fun e => by have := hw.2; rw [if_pos e] at this; exact this)
  have ha : 0 ≤ aheadN l := by unfold aheadN; split <;> omega
  unfold field_Right.f
  rw [ahead_eq h, if_pos hw]
  simp only [Option.bind_some, if_true]
  rw [wrap_in (by omega) (by omega), if_neg (by omega), if_pos (by omega), if_pos (by omega), right_eq _ (by rw [List.length_take]; omega) (by rw [List.length_take]; omega)]
  rfl
theorem take_cut (l : List Int) (m a b : Nat) (hb : b ≤ m) : cut (l.take m) a b = cut l a b := by
  unfold cut
  rw [List.take_take, Nat.min_eq_left hb]
theorem take_rd (l : List Int) (m i : Nat) (hi : i < m) : rd (l.take m) (i : Int) = rd l (i : Int) := by
  simp only [rd, Int.toNat_natCast, List.getD_eq_getElem?_getD]
  rw [List.getElem?_take_of_lt hi]
/-- How many are ahead of the sum is told by the first levels alone. -/
theorem take_ahead {l : List Int} {m : Nat} (hm : m ≤ l.length) (hw : whole (l.take m)) : aheadN (l.take m) = aheadN l := by
  obtain ⟨h13, hw⟩ := hw
  rw [List.length_take, Nat.min_eq_left hm] at h13 hw
  have e13 := take_rd l m 13 (by omega)
  have e12 := take_rd l m 12 (by omega)
  simp only [Int.cast_ofNat_Int] at e13 e12
  unfold aheadN dl bytesOf
  by_cases c : rd l 13 = 1
  · rw [show rd (l.take m) 13 = rd l 13 from e13, if_pos c] at hw
    have e32 := take_rd l m 32 (by omega)
    simp only [Int.cast_ofNat_Int] at e32
    rw [show rd (l.take m) 13 = rd l 13 from e13, show rd (l.take m) 32 = rd l 32 from e32, take_cut l m 35 39 (by omega)]
    simp only [if_pos c]
  · rw [show rd (l.take m) 13 = rd l 13 from e13, if_neg c] at hw
    rw [show rd (l.take m) 13 = rd l 13 from e13, show rd (l.take m) 12 = rd l 12 from e12, take_cut l m 15 19 (by omega)]
    simp only [if_neg c]
/-- A row that is right isn't any more with one level turned. -/
theorem sum_turned (P S : List Nat) (x : Nat) (hx : x < 2) (h : sumN 0 (P ++ x :: S) = 0) : sumN 0 (P ++ (1 - x) :: S) ≠ 0 := by
  intro h2
  rw [sumN_append] at h h2
  rw [show sumN (sumN 0 P) (x :: S) = sumN (stepN (sumN 0 P) x) S from rfl] at h
  rw [show sumN (sumN 0 P) ((1 - x) :: S) = sumN (stepN (sumN 0 P) (1 - x)) S from rfl] at h2
  have e := sumN_inj S (stepN_lt (sumN 0 P) x) (stepN_lt (sumN 0 P) (1 - x)) (h.trans h2.symm)
  have o := stepN_other (sumN 0 P) x hx
  rw [e, Nat.xor_self] at o
  omega
theorem rightB_zero {l : List Int} (h : isLv l) (hl : 15 ≤ l.length) : rightB l = true ↔ sumN 0 (nats l) = 0 := by
  obtain ⟨A, B, rfl, hB⟩ : ∃ A B, l = A ++ B ∧ B.length = 15 := ⟨l.take (l.length - 15), l.drop (l.length - 15), (List.take_append_drop _ _).symm, by rw [List.length_drop]; omega⟩
  have hA := (isLv_append.mp h).1
  have hBl := (isLv_append.mp h).2
  rw [rightB_append A B hB, decide_eq_true hA, decide_eq_true hBl, Bool.and_self, Bool.true_and, decide_eq_true_iff]
  have hv := valI_bounds hBl
  rw [hB, show (2 : Int) ^ 15 = 32768 from by decide] at hv
  obtain ⟨c, hc⟩ := Int.eq_ofNat_of_zero_le hv.1
  have hBo : B = ofI ((c : Nat) : Int) 15 := by rw [← hc, ← hB, ofI_valI hBl]
  have hcl : c < 32768 := by omega
  have hs : sumN 0 (nats (A ++ B)) = sumN (crcN A) (bitsN c 15) := by
    have := crcN_append_bits A c
    rw [← hBo] at this
    exact this
  rw [hs, sum_bits_iff (crcN_lt A) hcl, hBo]
  constructor
  · intro e
    have := ofI_inj (w := 15) (a := (c : Int)) (b := ((crcN A : Nat) : Int)) (by omega) (by rw [show (2 : Int) ^ 15 = 32768 from by decide]; omega) (by omega) (by rw [show (2 : Int) ^ 15 = 32768 from by decide]; have := crcN_lt A; omega) e
    omega
  · intro e
    rw [e]
theorem set_split (l : List Int) (i : Nat) (hi : i < l.length) (v : Int) : l = l.take i ++ l[i] :: l.drop (i + 1) ∧ l.set i v = l.take i ++ v :: l.drop (i + 1) := by
  refine ⟨?_, List.set_eq_take_append_cons_drop .. |>.trans (by rw [if_pos hi])⟩
  rw [← List.drop_eq_getElem_cons hi, List.take_append_drop]
theorem right_turned {l : List Int} (h : isLv l) (hl : 15 ≤ l.length) (hr : rightB l = true) (i : Nat) (hi : i < l.length) : isLv (l.set i (1 - l[i])) ∧ rightB (l.set i (1 - l[i])) = false := by
  have hx := h l[i] (List.getElem_mem hi)
  obtain ⟨e1, e2⟩ := set_split l i hi (1 - l[i])
  have hlv : isLv (l.set i (1 - l[i])) := by
    rw [e2]
    refine isLv_append.mpr ⟨isLv_take h i, isLv_cons.mpr ⟨?_, isLv_drop h _⟩⟩
    omega
  refine ⟨hlv, ?_⟩
  have hz := (rightB_zero h hl).mp hr
  cases hc : rightB (l.set i (1 - l[i])) with
  | false => rfl
  | true =>
    exfalso
    have h2 := (rightB_zero hlv (by rw [List.length_set]; exact hl)).mp hc
    rw [e2] at h2
    rw [e1] at hz
    simp only [nats, List.map_append, List.map_cons] at hz h2
    have ht := sum_turned _ _ (l[i]).toNat (by omega) hz
    rw [show 1 - (l[i]).toNat = (1 - l[i]).toNat from by omega] at ht
    exact ht h2
/-- The part ahead of the data is told, whatever is turned behind it. -/
theorem set_ahead {F : Fr} (hm : F.may) (T : List Int) (i : Nat) (v : Int) (hi : F.pre.length + 4 ≤ i) : whole ((F.bits ++ T).set i v) ∧ aheadN ((F.bits ++ T).set i v) = F.bits.length := by
  have hL : F.bits ++ T = (F.pre ++ ofI F.len 4) ++ (F.dat ++ T) := by rw [F.bits_pre hm]; simp
  have hq : (F.pre ++ ofI F.len 4).length = F.pre.length + 4 := by rw [List.length_append, ofI_length]
  have e : (F.bits ++ T).set i v = F.pre ++ (ofI F.len 4 ++ (F.dat ++ T).set (i - (F.pre.length + 4)) v) := by
    rw [hL, List.set_append, if_neg (by omega), hq, List.append_assoc]
  have hd := F.dat_length hm
  rw [e]
  refine ⟨pre_whole (ofI_length _ _), ?_⟩
  rw [pre_ahead (ofI_length _ _), len4 hm, F.bits_pre hm, List.length_append, List.length_append, ofI_length]
  split at hd <;> simp [*] <;> omega
theorem back_j4 (F : Fr) (hm : F.may) (i k : Nat) (hk : 500 ≤ k) (h1 : F.pre.length + 4 ≤ i) (h2 : i < F.bits.length + 15) : magnetolaw04_FieldBack.j4 (k + 1) F.all (i : Int) false = some true := by
  have hs := F.bits_small hm
  have hl := F.all_length
  have hi : i < F.all.length := by omega
  have hT : F.all = F.bits ++ (ofI ((crcN F.bits : Nat) : Int) 15 ++ List.replicate 10 1) := by unfold Fr.all; rw [List.append_assoc]
  have hx := F.all_lv F.all[i] (List.getElem_mem hi)
  have hrd : rd F.all (i : Int) = F.all[i] := rd_at F.all i hi
  have hsa := set_ahead hm (ofI ((crcN F.bits : Nat) : Int) 15 ++ List.replicate 10 1) i (1 - F.all[i]) h1
  rw [← hT] at hsa
  -- the part that the sum is of, and the sum
  have hX : F.all.take (F.bits.length + 15) = F.bits ++ ofI ((crcN F.bits : Nat) : Int) 15 := by
    unfold Fr.all
    exact List.take_left' (by rw [List.length_append, ofI_length])
  have hXlv : isLv (F.bits ++ ofI ((crcN F.bits : Nat) : Int) 15) := isLv_append.mpr ⟨F.bits_lv, ofI_lv _ _⟩
  have hXr : rightB (F.bits ++ ofI ((crcN F.bits : Nat) : Int) 15) = true := by
    rw [rightB_append _ _ (ofI_length _ _), decide_eq_true F.bits_lv, decide_eq_true (ofI_lv _ _), decide_eq_true rfl]
    rfl
  have hXl : (F.bits ++ ofI ((crcN F.bits : Nat) : Int) 15).length = F.bits.length + 15 := by rw [List.length_append, ofI_length]
  have hXi : F.all[i] = (F.bits ++ ofI ((crcN F.bits : Nat) : Int) 15)[i]'(by omega) := by
    have : (F.all.take (F.bits.length + 15))[i]'(by rw [List.length_take]; omega) = F.all[i] := List.getElem_take
    rw [← this]
    congr 1
  have hst : (F.all.set i (1 - F.all[i])).take (F.bits.length + 15) = (F.bits ++ ofI ((crcN F.bits : Nat) : Int) 15).set i (1 - (F.bits ++ ofI ((crcN F.bits : Nat) : Int) 15)[i]'(by omega)) := by
    rw [List.take_set, hX, hXi]
  have ht := right_turned hXlv (by omega) hXr i (by omega)
  have hslv : isLv (F.all.set i (1 - F.all[i])) := by
    rw [(set_split F.all i hi (1 - F.all[i])).2]
    exact isLv_append.mpr ⟨isLv_take F.all_lv i, isLv_cons.mpr ⟨by omega, isLv_drop F.all_lv _⟩⟩
  simp only [magnetolaw04_FieldBack.j4]
  rw [if_neg (by decide), if_pos (by omega), if_pos (by omega), hrd, wrap_in (by omega) (by omega), Int.toNat_natCast]
  rw [fright_lv hslv (by rw [List.length_set]; omega) hsa.1 (by rw [hsa.2, List.length_set]; omega) (by omega)]
  simp only [Option.bind_some, if_true]
  rw [hsa.2, show ((F.bits.length : Int) + 15).toNat = F.bits.length + 15 from by omega, hst, ht.2, if_neg (by decide), awake04 (by omega)]
  rfl
theorem back_j2 (F : Fr) (hm : F.may) (t : Int) (ht : -9223372036854775808 ≤ t ∧ t ≤ 9223372036854775807) (k : Nat) (hk : 510 ≤ k) : magnetolaw04_FieldBack.j2 k t F.all (F.bits.length : Int) F.id F.ext F.rtr F.len F.b0 F.b1 F.b2 F.b3 F.b4 F.b5 F.b6 F.b7 = some true := by
  obtain ⟨k, rfl⟩ : ∃ m, k = m + 3 := ⟨k - 3, by omega⟩
  have hd := F.dat_length hm
  have hs := F.bits_small hm
  have hl := F.all_length
  have hbl : F.bits.length = F.pre.length + 4 + F.dat.length := by rw [F.bits_pre hm, List.length_append, List.length_append, ofI_length]; omega
  have h3 : ∀ dd : Int, dd = (F.dat.length : Int) → magnetolaw04_FieldBack.j3 (k + 2) t F.all (F.bits.length : Int) dd = some true := by
    intro dd hdd
    subst hdd
    have hm1 : wrap64 ((F.dat.length : Int) + 15) = (F.dat.length : Int) + 15 := wrap_in (by omega) (by omega)
    have ha := Int.tmod_lt_of_pos t (show (0 : Int) < (F.dat.length : Int) + 15 by omega)
    have hb : -((F.dat.length : Int) + 15) < Int.tmod t ((F.dat.length : Int) + 15) := by
      have := Int.lt_tmod_of_pos t (show (0 : Int) < (F.dat.length : Int) + 15 by omega)
      omega
    have hm2 : wrap64 (Int.tmod t ((F.dat.length : Int) + 15) + ((F.dat.length : Int) + 15)) = Int.tmod t ((F.dat.length : Int) + 15) + ((F.dat.length : Int) + 15) := wrap_in (by omega) (by omega)
    generalize hu : Int.tmod t ((F.dat.length : Int) + 15) + ((F.dat.length : Int) + 15) = u at hm2
    have hc := Int.tmod_lt_of_pos u (show (0 : Int) < (F.dat.length : Int) + 15 by omega)
    have hc0 : 0 ≤ Int.tmod u ((F.dat.length : Int) + 15) := Int.tmod_nonneg _ (by omega)
    have hm3 : wrap64 ((F.bits.length : Int) - F.dat.length) = ((F.bits.length : Int) - F.dat.length) := wrap_in (by omega) (by omega)
    have hm4 : wrap64 ((F.bits.length : Int) - F.dat.length + Int.tmod u ((F.dat.length : Int) + 15)) = (F.bits.length : Int) - F.dat.length + Int.tmod u ((F.dat.length : Int) + 15) := wrap_in (by omega) (by omega)
    obtain ⟨r, hr⟩ := Int.eq_ofNat_of_zero_le (show 0 ≤ (F.bits.length : Int) - F.dat.length + Int.tmod u ((F.dat.length : Int) + 15) by omega)
    simp only [magnetolaw04_FieldBack.j3]
    rw [hm1, hu, hm2, hm3, hm4, if_neg (by omega), if_neg (by omega), decide_eq_false (by omega), hr]
    exact back_j4 F hm r k (by omega) (by omega) (by omega)
  simp only [magnetolaw04_FieldBack.j2]
  by_cases c : F.rtr = true
  · rw [if_pos c] at hd
    rw [if_pos c]
    exact h3 0 (by omega)
  · rw [if_neg c] at hd
    have h8 := hm.2.2.2.1
    have h0 := hm.2.2.1
    rw [if_neg c, wrap_in (by omega) (by omega)]
    exact h3 _ (by omega)
theorem FieldBack : magnetolaw04_FieldBack.Pure := by
  intro a0 a1 a2 a3 a4 a5 a6 a7 a8 a9 a10 a11 left t _ _ h4 h5 h6 h7 h8 h9 h10 h11 hlw htw
  let F : Fr := ⟨a0, a1, a2, a3, a4, a5, a6, a7, a8, a9, a10, a11⟩
  have hb : F.isB := isB_of h4 h5 h6 h7 h8 h9 h10 h11
  have ht := bounds_i64 htw
  refine ⟨1000, ?_⟩
  show magnetolaw04_FieldBack.f 1000 F.id F.ext F.rtr F.len F.b0 F.b1 F.b2 F.b3 F.b4 F.b5 F.b6 F.b7 left t = some true
  clear_value F
  clear h4 h5 h6 h7 h8 h9 h10 h11
  unfold magnetolaw04_FieldBack.f
  by_cases hm : F.may
  · have hs := F.bits_small hm
    have hl := F.all_length
    have hT : F.all = F.bits ++ (ofI ((crcN F.bits : Nat) : Int) 15 ++ List.replicate 10 1) := by unfold Fr.all; rw [List.append_assoc]
    have hal := F.all_lv
    have ha := bits_ahead hm (ofI ((crcN F.bits : Nat) : Int) 15 ++ List.replicate 10 1)
    rw [← hT] at ha
    have hX : F.all.take (F.bits.length + 15) = F.bits ++ ofI ((crcN F.bits : Nat) : Int) 15 := by
      unfold Fr.all
      exact List.take_left' (by rw [List.length_append, ofI_length])
    have hXr : rightB (F.bits ++ ofI ((crcN F.bits : Nat) : Int) 15) = true := by
      rw [rightB_append _ _ (ofI_length _ _), decide_eq_true F.bits_lv, decide_eq_true (ofI_lv _ _), decide_eq_true rfl]
      rfl
    rw [fall_yes F hb hm (by omega), fbits_yes F hb hm]
    simp only [Option.bind_some, if_true]
    rw [ahead_eq hal, if_pos ha.2, fright_lv hal (by omega) ha.2 (by rw [ha.1]; omega) (by omega), ha.1, show ((F.bits.length : Int) + 15).toNat = F.bits.length + 15 from by omega, hX, hXr]
    simp only [Option.bind_some, if_true]
    rw [wrap_in (by omega) (by omega), if_pos (by omega), if_pos (by omega), if_pos (by omega), Int.toNat_natCast]
    have htk : F.all.take F.bits.length = F.bits := by rw [hT]; exact List.take_left' rfl
    rw [htk, ints04_eq _ _ (by omega) 1000 (by omega), decide_eq_true rfl]
    simp only [Option.bind_some, Bool.not_true, magnetolaw04_FieldBack.j0]
    rw [if_neg (by decide)]
    by_cases c0 : left ≥ 0
    · rw [if_pos c0]
      simp only [magnetolaw04_FieldBack.j1]
      by_cases c1 : left ≤ (F.all.length : Int)
      · rw [decide_eq_true c1, if_pos rfl, if_pos (by omega), if_pos c1]
        obtain ⟨m, rfl⟩ := Int.eq_ofNat_of_zero_le c0
        have hml : m ≤ F.all.length := by omega
        rw [Int.toNat_natCast, fframe_lv (isLv_take hal m) (by rw [List.length_take]; omega) (by omega)]
        simp only [Option.bind_some]
        by_cases c2 : (m : Int) < (F.bits.length : Int)
        · have hres : frRes (F.all.take m) = frT noFr 13 := by
            unfold frRes
            rw [if_pos]
            by_cases hw : whole (F.all.take m)
            · right
              rw [take_ahead hml hw, ha.1, List.length_take, Nat.min_eq_left hml]
              exact c2
            · exact .inl hw
          rw [if_pos c2, hres]
          simp only [frT, noFr, beq_self_eq_true, Bool.not_true, Bool.or_self]
          rw [if_neg (by decide), if_pos trivial, if_neg (by omega)]
          exact back_j2 F hm t ht _ (by omega)
        · have hres : frRes (F.all.take m) = frT F 0 := by
            rw [hT, List.take_append, List.take_of_length_le (by omega)]
            exact bits_res hb hm _
          rw [if_neg c2, if_pos (by omega), hres]
          simp only [frT, beq_self_eq_true, Bool.not_true, Bool.or_self]
          rw [if_neg (by decide), if_pos trivial]
          exact back_j2 F hm t ht _ (by omega)
      · rw [decide_eq_false c1, if_neg (by decide)]
        exact back_j2 F hm t ht _ (by omega)
    · rw [if_neg c0]
      simp only [magnetolaw04_FieldBack.j1]
      rw [if_neg (by decide)]
      exact back_j2 F hm t ht _ (by omega)
  · rw [fall_no F hb hm, fbits_no F hb hm, fcheck_eq F hb, if_neg hm]
    simp only [Option.bind_some]
    rw [if_neg (by decide), if_pos (by rfl), if_pos trivial, if_pos trivial, awake04 (by omega)]
    rfl
end Go.Proofs.Ytakemodmdhglnaa.Pure
