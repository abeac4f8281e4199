/- A frame's levels on the bus, as the program and the document tell them. -/
import Derived.Test.YtakemodmdhglnaaQFrame
import Derived.Test.YtakemodmdhglnaaQStuffB
import Derived.Test.YtakemodmdhglnaaPAx34
import Derived.Test.YtakemodmdhglnaaPAx38
import Derived.Test.YtakemodmdhglnaaPAx36
import Derived.Test.YtakemodmdhglnaaPAx39
namespace Go.Proofs.Ytakemodmdhglnaa.Pure
open Go.RowKit Go.Proofs.Ytakemodmdhglnaa.PA Go.Proofs.YtakemodmdhglnaaW.PrintWords Go.Proofs.YtakemodmdhglnaaW.PrintLast Go.Proofs.YtakemodmdhglnaaW.PrintMore

/-- The levels up to the sum's last. -/
def Fr.sumd (F : Fr) : List Int := F.bits ++ ofI ((crcN F.bits : Nat) : Int) 15
theorem Fr.sumd_lv (F : Fr) : isLv F.sumd := isLv_append.mpr ⟨F.bits_lv, ofI_lv _ _⟩
theorem Fr.sumd_length (F : Fr) : F.sumd.length = F.bits.length + 15 := by unfold Fr.sumd; rw [List.length_append, ofI_length]
theorem Fr.all_sumd (F : Fr) : F.all = F.sumd ++ List.replicate 10 1 := rfl
/-- The levels on the bus. -/
def Fr.enc (F : Fr) (ack : Bool) : List Int := stuffed F.sumd ++ (if ack = true then [1, 0] else [1, 1]) ++ [1, 1, 1, 1, 1, 1, 1, 1]
theorem Fr.enc_length (F : Fr) (ack : Bool) : (F.enc ack).length = (stuffed F.sumd).length + 10 := by
  unfold Fr.enc
  split <;> simp
theorem stuffed_small (F : Fr) (hm : F.may) : F.sumd.length ≤ (stuffed F.sumd).length ∧ (stuffed F.sumd).length ≤ 300 := by
  have hs := F.bits_small hm
  have hl := F.sumd_length
  have := stuffed_length F.sumd
  omega
theorem enc_no (F : Fr) (hb : F.isB) (hm : ¬ F.may) (ack : Bool) (k : Nat) : codec_Encode.f k F.id F.ext F.rtr F.len F.b0 F.b1 F.b2 F.b3 F.b4 F.b5 F.b6 F.b7 ack = some ([], 14) := by
  unfold codec_Encode.f
  rw [fall_no F hb hm]
  simp only [Option.bind_some]
  rw [if_neg (by decide)]
theorem enc_yes (F : Fr) (hb : F.isB) (hm : F.may) (ack : Bool) {k : Nat} (hk : 30 ≤ k) : codec_Encode.f k F.id F.ext F.rtr F.len F.b0 F.b1 F.b2 F.b3 F.b4 F.b5 F.b6 F.b7 ack = some (F.enc ack, 0) := by
  have hs := F.bits_small hm
  have hl := F.all_length
  have hsl := F.sumd_length
  have hst := stuffed_small F hm
  have ht : F.all.take (F.bits.length + 15) = F.sumd := by rw [F.all_sumd]; exact List.take_left' hsl
  have hd : F.all.drop (F.bits.length + 15) = List.replicate 10 1 := by rw [F.all_sumd]; exact List.drop_left' hsl
  unfold codec_Encode.f
  rw [fall_yes F hb hm hk]
  simp only [Option.bind_some, if_true]
  rw [wrap_in (by omega) (by omega), if_pos (by omega), if_pos (by omega), show ((F.all.length : Int) - 10).toNat = F.bits.length + 15 from by omega, ht, hd, add_lv F.sumd_lv (by omega)]
  simp only [Option.bind_some]
  rw [if_pos (by rw [List.length_replicate]; omega)]
  (try simp only [Option.bind_some])
  have hn : (stuffed F.sumd ++ List.replicate 10 (1 : Int)).length = (stuffed F.sumd).length + 10 := by rw [List.length_append, List.length_replicate]
  by_cases c : ack = true
  · rw [if_pos c, hn, wrap_in (x := _ - 10) (by omega) (by omega), wrap_in (by omega) (by omega), if_pos (by omega), if_pos (by omega)]
    unfold Fr.enc
    rw [if_pos c, show (((((stuffed F.sumd).length + 10 : Nat) : Int) - 10) + 1).toNat = (stuffed F.sumd).length + 1 from by omega, List.set_append, if_neg (by omega), show (stuffed F.sumd).length + 1 - (stuffed F.sumd).length = 1 from by omega]
    simp [List.replicate]
  · rw [if_neg c]
    unfold Fr.enc
    rw [if_neg c]
    simp [List.replicate]
theorem clen_no (F : Fr) (hb : F.isB) (hm : ¬ F.may) (k : Nat) : codec_Length.f k F.id F.ext F.rtr F.len F.b0 F.b1 F.b2 F.b3 F.b4 F.b5 F.b6 F.b7 = some (0, 14) := by
  unfold codec_Length.f
  rw [fall_no F hb hm]
  simp only [Option.bind_some]
  rw [if_neg (by decide)]
theorem clen_yes (F : Fr) (hb : F.isB) (hm : F.may) {k : Nat} (hk : 30 ≤ k) : codec_Length.f k F.id F.ext F.rtr F.len F.b0 F.b1 F.b2 F.b3 F.b4 F.b5 F.b6 F.b7 = some (((stuffed F.sumd).length : Int) + 10, 0) := by
  have hs := F.bits_small hm
  have hl := F.all_length
  have hsl := F.sumd_length
  have hst := stuffed_small F hm
  have ht : F.all.take (F.bits.length + 15) = F.sumd := by rw [F.all_sumd]; exact List.take_left' hsl
  unfold codec_Length.f
  rw [fall_yes F hb hm hk]
  simp only [Option.bind_some, if_true]
  rw [wrap_in (x := _ - 10) (by omega) (by omega), if_pos (by omega), if_pos (by omega), show ((F.all.length : Int) - 10).toNat = F.bits.length + 15 from by omega, ht, count_lv F.sumd_lv (by omega)]
  simp only [Option.bind_some]
  rw [wrap_in (by omega) (by omega), show (F.all.length : Int) + (((stuffed F.sumd).length : Int) - F.sumd.length) = ((stuffed F.sumd).length : Int) + 10 from by omega]
theorem refEnc_eq (F : Fr) (hb : F.isB) (hm : F.may) (ack : Bool) {k : Nat} (hk : 400 ≤ k) : magnetoref06_Encode.f k F.id F.ext F.rtr F.len F.b0 F.b1 F.b2 F.b3 F.b4 F.b5 F.b6 F.b7 ack = some (F.enc ack) := by
  have hs := F.bits_small hm
  have hsl := F.sumd_length
  have hst := stuffed_small F hm
  unfold magnetoref06_Encode.f
  rw [refBits_eq F hb hm (by omega)]
  simp only [Option.bind_some]
  unfold magnetoref04_Sum.f
  rw [refSum_eq F.bits_lv (by omega) (by omega)]
  simp only [Option.bind_some]
  rw [if_pos (by rw [ofI_length]; omega), show F.bits ++ ofI ((crcN F.bits : Nat) : Int) 15 = F.sumd from rfl, refAdd_eq _ (by omega) (by omega), if_pos F.sumd_lv]
  simp only [Option.bind_some]
  rw [if_pos (by simp; omega)]
  (try simp only [Option.bind_some])
  have hn : (stuffed F.sumd ++ ([1, 1] : List Int)).length = (stuffed F.sumd).length + 2 := by simp
  have hset : (stuffed F.sumd ++ ([1, 1] : List Int)).set ((stuffed F.sumd).length + 1) 0 = stuffed F.sumd ++ [1, 0] := by
    rw [List.set_append, if_neg (by omega), show (stuffed F.sumd).length + 1 - (stuffed F.sumd).length = 1 from by omega]
    rfl
  unfold Fr.enc
  by_cases c : ack = true
  · rw [if_pos c, hn, wrap_in (by omega) (by omega), if_pos (by omega), if_pos (by omega)]
    (try simp only [Option.bind_some])
    rw [show ((((stuffed F.sumd).length + 2 : Nat) : Int) - 1).toNat = (stuffed F.sumd).length + 1 from by omega, hset, if_pos (by simp; omega), if_pos c]
  · rw [if_neg c, if_pos (by simp; omega), if_neg c]
theorem longest_no (n : Int) (ext : Bool) (h : n < 0 ∨ n > 8) {k : Nat} (hk : 3 ≤ k) : codec_Longest.f k n ext = some (0, 10) := by
  obtain ⟨k, rfl⟩ : ∃ m, k = m + 1 := ⟨k - 1, by omega⟩
  have hj : codec_Longest.j0 (k + 1) n ext true = some (0, 10) := by simp only [codec_Longest.j0, if_true]
  unfold codec_Longest.f
  by_cases c : n < 0
  · rw [if_pos c, hj]
  · rw [if_neg c, decide_eq_true (by omega), hj]
theorem longest_yes (n : Int) (ext : Bool) (h0 : 0 ≤ n) (h8 : n ≤ 8) {k : Nat} (hk : 3 ≤ k) : codec_Longest.f k n ext = some ((if ext = true then 54 + 8 * n else 34 + 8 * n) + ((if ext = true then 54 + 8 * n else 34 + 8 * n) - 1) / 4 + 10, 0) := by
  obtain ⟨k, rfl⟩ : ∃ m, k = m + 1 := ⟨k - 1, by omega⟩
  unfold codec_Longest.f
  rw [if_neg (by omega), decide_eq_false (by omega)]
  simp only [codec_Longest.j0]
  rw [if_neg (by decide)]
  by_cases c : ext = true
  · rw [if_pos c, if_pos c, wrap_in (x := 8 * n) (by omega) (by omega), wrap_in (x := 54 + 8 * n) (by omega) (by omega), most_yes _ (by omega) (by omega), if_neg (by omega)]
    simp only [Option.bind_some]
    rw [wrap_in (x := 54 + 8 * n + _) (by omega) (by omega), wrap_in (by omega) (by omega)]
  · rw [if_neg c, if_neg c, wrap_in (x := 8 * n) (by omega) (by omega), wrap_in (x := 34 + 8 * n) (by omega) (by omega), most_yes _ (by omega) (by omega), if_neg (by omega)]
    simp only [Option.bind_some]
    rw [wrap_in (x := 34 + 8 * n + _) (by omega) (by omega), wrap_in (by omega) (by omega)]
end Go.Proofs.Ytakemodmdhglnaa.Pure
