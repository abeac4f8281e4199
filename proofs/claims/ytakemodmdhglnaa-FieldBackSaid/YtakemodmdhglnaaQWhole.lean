/- Levels that begin with a frame's: which frame they are. -/
import Derived.Test.YtakemodmdhglnaaQFrameOf
import Derived.Test.YtakemodmdhglnaaQFrame
namespace Go.Proofs.Ytakemodmdhglnaa.Pure
open Go.RowKit Go.Proofs.Ytakemodmdhglnaa.PA Go.Proofs.YtakemodmdhglnaaW.PrintWords Go.Proofs.YtakemodmdhglnaaW.PrintLast Go.Proofs.YtakemodmdhglnaaW.PrintMore

theorem cut_app {X Y Z : List Int} {a b : Nat} (hx : X.length = a) (hy : a + Y.length = b) : cut (X ++ (Y ++ Z)) a b = Y := by
  subst hx
  subst hy
  unfold cut
  rw [← List.append_assoc, List.take_left' (by simp), List.drop_left' rfl]
theorem cut_right {X Z : List Int} {a b : Nat} (n : Nat) (hx : X.length = n) : cut (X ++ Z) (n + a) (n + b) = cut Z a b := by
  subst hx
  unfold cut
  rw [List.take_length_add_append, List.drop_length_add_append]
theorem rd_app {X Z : List Int} {y : Int} {a : Nat} (hx : X.length = a) : rd (X ++ y :: Z) (a : Int) = y := by
  subst hx
  simp [rd, List.getD_eq_getElem?_getD]
/-- A frame's levels ahead of the four that tell how many bytes it has. -/
def Fr.pre (F : Fr) : List Int := [0] ++ F.arb ++ (if F.ext = true then [0, 0] else [0])
theorem Fr.pre_length (F : Fr) : F.pre.length = if F.ext = true then 35 else 15 := by
  unfold Fr.pre
  rw [List.length_append, List.length_append, F.arb_length]
  split <;> rfl
theorem Fr.pre_lv (F : Fr) : isLv F.pre := by
  unfold Fr.pre
  refine isLv_append.mpr ⟨isLv_append.mpr ⟨fun x hx => .inl (by simpa using hx), F.arb_lv⟩, ?_⟩
  split
  · intro x hx
    simp at hx
    exact .inl hx
  · intro x hx
    simp at hx
    exact .inl hx
theorem Fr.bits_pre {F : Fr} (hm : F.may) : F.bits = F.pre ++ (ofI F.len 4 ++ F.dat) := by
  have h0 := hm.2.2.1
  have h8 := hm.2.2.2.1
  have hz : F.len / 2 ^ 4 = 0 := by
    rw [show (2 : Int) ^ 4 = 16 from by decide]
    omega
  unfold Fr.bits Fr.pre
  by_cases c : F.ext = true
  · rw [if_pos c, if_pos c, show (6 : Nat) = 2 + 4 from rfl, ofI_append 4 F.len 2, hz]
    simp [ofI]
  · rw [if_neg c, if_neg c, show (5 : Nat) = 1 + 4 from rfl, ofI_append 4 F.len 1, hz]
    simp [ofI]
section
variable {F : Fr} {D W : List Int}
theorem pre_ext (c : F.ext = true) : F.pre ++ (D ++ W) = [0] ++ (ofI (F.id / 262144) 11 ++ (1 :: 1 :: (ofI F.id 18 ++ (lvB F.rtr :: 0 :: 0 :: (D ++ W))))) := by
  unfold Fr.pre Fr.arb
  rw [if_pos c, if_pos c]
  simp
theorem pre_std (c : ¬ F.ext = true) : F.pre ++ (D ++ W) = [0] ++ (ofI F.id 11 ++ (lvB F.rtr :: 0 :: 0 :: (D ++ W))) := by
  unfold Fr.pre Fr.arb
  rw [if_neg c, if_neg c]
  simp
theorem pre_0 : rd (F.pre ++ (D ++ W)) 0 = 0 := by
  unfold Fr.pre
  simp [rd]
theorem pre_13 : rd (F.pre ++ (D ++ W)) 13 = if F.ext = true then 1 else 0 := by
  by_cases c : F.ext = true
  · rw [pre_ext c, if_pos c, show [0] ++ (ofI (F.id / 262144) 11 ++ (1 :: 1 :: (ofI F.id 18 ++ (lvB F.rtr :: 0 :: 0 :: (D ++ W))))) = ([0] ++ ofI (F.id / 262144) 11 ++ [1]) ++ 1 :: (ofI F.id 18 ++ (lvB F.rtr :: 0 :: 0 :: (D ++ W))) from by simp]
    exact rd_app (a := 13) (by simp [ofI_length])
  · rw [pre_std c, if_neg c, show [0] ++ (ofI F.id 11 ++ (lvB F.rtr :: 0 :: 0 :: (D ++ W))) = ([0] ++ ofI F.id 11 ++ [lvB F.rtr]) ++ 0 :: 0 :: (D ++ W) from by simp]
    exact rd_app (a := 13) (by simp [ofI_length])
theorem pre_13' : (rd (F.pre ++ (D ++ W)) 13 = 1) ↔ F.ext = true := by
  rw [pre_13]
  split
  · simp [*]
  · simp [*]
theorem pre_rtr : rtrOf (F.pre ++ (D ++ W)) = F.rtr := by
  unfold rtrOf
  have hl : (lvB F.rtr == 1) = F.rtr := by cases F.rtr <;> rfl
  by_cases c : F.ext = true
  · rw [if_pos (pre_13'.mpr c), pre_ext c, show [0] ++ (ofI (F.id / 262144) 11 ++ (1 :: 1 :: (ofI F.id 18 ++ (lvB F.rtr :: 0 :: 0 :: (D ++ W))))) = ([0] ++ ofI (F.id / 262144) 11 ++ [1, 1] ++ ofI F.id 18) ++ lvB F.rtr :: (0 :: 0 :: (D ++ W)) from by simp]
    rw [show (32 : Int) = ((32 : Nat) : Int) from rfl, rd_app (by simp [ofI_length])]
    exact hl
  · rw [if_neg (fun e => c (pre_13'.mp e)), pre_std c, show [0] ++ (ofI F.id 11 ++ (lvB F.rtr :: 0 :: 0 :: (D ++ W))) = ([0] ++ ofI F.id 11) ++ lvB F.rtr :: (0 :: 0 :: (D ++ W)) from by simp]
    rw [show (12 : Int) = ((12 : Nat) : Int) from rfl, rd_app (by simp [ofI_length])]
    exact hl
theorem pre_id (hm : F.may) : idOf (F.pre ++ (D ++ W)) = F.id := by
  have hi := F.id_small hm
  unfold idOf
  by_cases c : F.ext = true
  · rw [if_pos (pre_13'.mpr c), pre_ext c, cut_app (a := 1) (b := 12) (X := [0]) (Y := ofI (F.id / 262144) 11) rfl (by rw [ofI_length])]
    rw [show [0] ++ (ofI (F.id / 262144) 11 ++ (1 :: 1 :: (ofI F.id 18 ++ (lvB F.rtr :: 0 :: 0 :: (D ++ W))))) = ([0] ++ ofI (F.id / 262144) 11 ++ [1, 1]) ++ (ofI F.id 18 ++ (lvB F.rtr :: 0 :: 0 :: (D ++ W))) from by simp, cut_app (by simp [ofI_length]) (by rw [ofI_length])]
    rw [valI_ofI, valI_ofI, show (2 : Int) ^ 11 = 2048 from by decide, show (2 : Int) ^ 18 = 262144 from by decide]
    omega
  · have h2 := hm.2.1
    rw [if_neg c] at h2
    rw [if_neg (fun e => c (pre_13'.mp e)), pre_std c, cut_app (a := 1) (b := 12) (X := [0]) (Y := ofI F.id 11) rfl (by rw [ofI_length]), valI_ofI, show (2 : Int) ^ 11 = 2048 from by decide]
    omega
theorem pre_at : dataAt (F.pre ++ (D ++ W)) = F.pre.length + 4 := by
  unfold dataAt
  rw [F.pre_length]
  by_cases c : F.ext = true
  · rw [if_pos (pre_13'.mpr c), if_pos c]
  · rw [if_neg (fun e => c (pre_13'.mp e)), if_neg c]
theorem pre_bytes (hD : D.length = 4) : bytesOf (F.pre ++ (D ++ W)) = mn (valI D) 8 := by
  by_cases c : F.ext = true
  · rw [bytesOf_1 (pre_13'.mpr c), cut_app (by rw [F.pre_length, if_pos c]) (by rw [hD])]
  · rw [bytesOf_0 (fun e => c (pre_13'.mp e)), cut_app (by rw [F.pre_length, if_neg c]) (by rw [hD])]
theorem pre_whole (hD : D.length = 4) : whole (F.pre ++ (D ++ W)) := by
  have hl : (F.pre ++ (D ++ W)).length = F.pre.length + 4 + W.length := by
    rw [List.length_append, List.length_append, hD]
    omega
  have hp := F.pre_length
  by_cases c : F.ext = true
  · rw [if_pos c] at hp
    exact ⟨by omega, by rw [if_pos (pre_13'.mpr c)]; omega⟩
  · rw [if_neg c] at hp
    exact ⟨by omega, by rw [if_neg (fun e => c (pre_13'.mp e))]; omega⟩
theorem pre_dl (hD : D.length = 4) : dl (F.pre ++ (D ++ W)) = if F.rtr = true then 0 else 8 * mn (valI D) 8 := by
  have h := pre_rtr (F := F) (D := D) (W := W)
  unfold rtrOf at h
  unfold dl
  rw [pre_bytes hD]
  by_cases c : F.rtr = true
  · rw [if_pos c, if_pos (by rw [c] at h; simpa using h)]
  · rw [if_neg c, if_neg (by intro e; rw [e] at h; exact c h.symm)]
theorem pre_ahead (hD : D.length = 4) : aheadN (F.pre ++ (D ++ W)) = (F.pre.length + 4 : Nat) + if F.rtr = true then 0 else 8 * mn (valI D) 8 := by
  unfold aheadN
  rw [pre_dl hD, F.pre_length]
  by_cases c : F.ext = true
  · rw [if_pos (pre_13'.mpr c), if_pos c]
    rfl
  · rw [if_neg (fun e => c (pre_13'.mp e)), if_neg c]
    rfl
theorem pre_byte (hD : D.length = 4) (j : Nat) : byteN (F.pre ++ (D ++ W)) j = valI (cut W (8 * j) (8 * j + 8)) := by
  unfold byteN
  rw [pre_at, ← List.append_assoc, Nat.add_assoc (F.pre.length + 4) (8 * j) 8, cut_right (X := F.pre ++ D) (F.pre.length + 4) (by rw [List.length_append, hD])]
end
/-- The data's bytes, one by one. -/
theorem dat_cut (d T : List Int) : ∀ j, j < d.length → cut ((d.flatMap fun x => ofI x 8) ++ T) (8 * j) (8 * j + 8) = ofI (d.getD j 0) 8 := by
  induction d with
  | nil => intro j hj; simp at hj
  | cons x t ih =>
    intro j hj
    rw [List.flatMap_cons, List.append_assoc]
    cases j with
    | zero =>
      rw [show ofI x 8 ++ ((t.flatMap fun x => ofI x 8) ++ T) = [] ++ (ofI x 8 ++ ((t.flatMap fun x => ofI x 8) ++ T)) from rfl, cut_app (by rfl) (by rw [ofI_length])]
      rfl
    | succ j =>
      rw [show 8 * (j + 1) = 8 + 8 * j from by omega, Nat.add_assoc, cut_right 8 (ofI_length 8 x), ih j (by simpa using hj)]
      rfl
/-- Levels that tell a frame's bytes, as they are or by more than eight, are that frame. -/
theorem whole_fr {F : Fr} {D T : List Int} (hb : F.isB) (hm : F.may) (hD : D.length = 4) (hv : mn (valI D) 8 = F.len) : frOf (F.pre ++ (D ++ (F.dat ++ T))) = F := by
  have h0 := hm.2.2.1
  have h8 := hm.2.2.2.1
  have hz := hm.2.2.2.2
  have hn : nB (F.pre ++ (D ++ (F.dat ++ T))) = F.out := by
    unfold nB Fr.out
    rw [pre_rtr, pre_bytes hD, hv]
  have hB : ∀ j, j < F.out → byteN (F.pre ++ (D ++ (F.dat ++ T))) j = F.d.getD j 0 := by
    intro j hj
    have hr : ¬ F.rtr = true := by
      intro e
      unfold Fr.out at hj
      rw [if_pos e] at hj
      omega
    unfold Fr.out at hj
    rw [if_neg hr] at hj
    have hj8 : j < F.d.length := by rw [F.d_length]; omega
    have hbj := hb F.d[j] (List.getElem_mem hj8)
    have hg : (F.d.take F.len.toNat).getD j 0 = F.d[j] := by
      rw [List.getD_eq_getElem?_getD, List.getElem?_take_of_lt hj, List.getElem?_eq_getElem hj8]
      rfl
    rw [pre_byte hD]
    unfold Fr.dat
    rw [if_neg hr, dat_cut _ _ j (by rw [List.length_take, F.d_length]; omega), hg, valI_ofI, show (2 : Int) ^ 8 = 256 from by decide, Int.emod_eq_of_lt hbj.1 hbj.2, List.getD_eq_getElem?_getD, List.getElem?_eq_getElem hj8]
    rfl
  have hg : ∀ j, j < 8 → gB (nB (F.pre ++ (D ++ (F.dat ++ T)))) (byteN (F.pre ++ (D ++ (F.dat ++ T)))) 0 j 0 = F.d.getD j 0 := by
    intro j hj
    have hj8 : j < F.d.length := by rw [F.d_length]; omega
    unfold gB
    rw [hn]
    by_cases c : j < F.out
    · rw [if_pos ⟨by omega, c⟩, hB j c]
    · rw [if_neg (by omega)]
      rw [List.getD_eq_getElem?_getD, List.getElem?_eq_getElem hj8]
      refine (hz F.d[j] ?_).symm
      rw [List.mem_drop_iff_getElem]
      exact ⟨j - F.out, by omega, by congr 1; omega⟩
  have he : (rd (F.pre ++ (D ++ (F.dat ++ T))) 13 == 1) = F.ext := by
    rw [pre_13]
    cases F.ext <;> rfl
  unfold frOf
  rw [he, pre_id hm, pre_rtr, pre_bytes hD, hv, hg 0 (by omega), hg 1 (by omega), hg 2 (by omega), hg 3 (by omega), hg 4 (by omega), hg 5 (by omega), hg 6 (by omega), hg 7 (by omega)]
  rfl
theorem whole_res {F : Fr} {D T : List Int} (hb : F.isB) (hm : F.may) (hD : D.length = 4) (hv : mn (valI D) 8 = F.len) : frRes (F.pre ++ (D ++ (F.dat ++ T))) = frT F 0 := by
  unfold frRes
  have hd := F.dat_length hm
  rw [if_neg (c := ¬ whole _ ∨ _) (not_or.mpr ⟨fun e => e (pre_whole hD), ?_⟩), if_pos pre_0, whole_fr hb hm hD hv]
  rw [pre_ahead hD, hv, List.length_append, List.length_append, List.length_append, hD]
  split at hd <;> simp [*] <;> omega
theorem len4 {F : Fr} (hm : F.may) : mn (valI (ofI F.len 4)) 8 = F.len := by
  have h0 := hm.2.2.1
  have h8 := hm.2.2.2.1
  rw [valI_ofI, show (2 : Int) ^ 4 = 16 from by decide, Int.emod_eq_of_lt h0 (by omega), mn_le (by omega)]
theorem bits_ahead {F : Fr} (hm : F.may) (T : List Int) : aheadN (F.bits ++ T) = F.bits.length ∧ whole (F.bits ++ T) := by
  have e : F.bits ++ T = F.pre ++ (ofI F.len 4 ++ (F.dat ++ T)) := by rw [F.bits_pre hm]; simp
  have hd := F.dat_length hm
  rw [e]
  refine ⟨?_, pre_whole (ofI_length _ _)⟩
  rw [pre_ahead (ofI_length _ _), len4 hm, F.bits_pre hm, List.length_append, List.length_append, ofI_length]
  split at hd <;> simp [*] <;> omega
theorem bits_res {F : Fr} (hb : F.isB) (hm : F.may) (T : List Int) : frRes (F.bits ++ T) = frT F 0 := by
  have e : F.bits ++ T = F.pre ++ (ofI F.len 4 ++ (F.dat ++ T)) := by rw [F.bits_pre hm]; simp
  rw [e]
  exact whole_res hb hm (ofI_length _ _) (len4 hm)
end Go.Proofs.Ytakemodmdhglnaa.Pure
