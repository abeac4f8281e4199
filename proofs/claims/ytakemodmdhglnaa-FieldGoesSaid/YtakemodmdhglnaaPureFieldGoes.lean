/- The pure statement of FieldGoes, in plain Lean. -/
import Derived.Test.YtakemodmdhglnaaRFieldGoes
import Derived.Test.YtakemodmdhglnaaQWhole
import Derived.Test.YtakemodmdhglnaaQAwake04
import Derived.Test.YtakemodmdhglnaaQInts04
namespace Go.Proofs.Ytakemodmdhglnaa.Pure
open Go.RowKit Go.Proofs.Ytakemodmdhglnaa.PA Go.Proofs.YtakemodmdhglnaaW.PrintWords Go.Proofs.YtakemodmdhglnaaW.PrintLast

/-- As many levels as each field has. -/
def wantL (ext : Bool) (D : Int) : List Int := [1, if ext = true then 32 else 13, if ext = true then 6 else 5, D, 15, 1, 1, 1, 7]
/-- The law's loop, by counting down. -/
def goL (w : List Int) : Nat → Nat → List Int → Int → Bool
  | 0, _, c, _ => decide (c = w)
  | d + 1, i, c, last => (decide (last ≤ (nextGo w w 0 (i : Int)).1) && decide ((nextGo w w 0 (i : Int)).1 ≤ 8) && decide ((nextGo w w 0 (i : Int)).2 = rd c (nextGo w w 0 (i : Int)).1)) && goL w d (i + 1) (c.set (nextGo w w 0 (i : Int)).1.toNat (rd c (nextGo w w 0 (i : Int)).1 + 1)) (nextGo w w 0 (i : Int)).1
theorem goL_ok : ∀ e : Bool, ∀ j : Fin 9, goL (wantL e (8 * ((j : Nat) : Int))) ((if e = true then 39 else 19) + 8 * (j : Nat) + 25) 0 (List.replicate 9 0) 0 = true := by decide +kernel
theorem goEnd_ok : ∀ e : Bool, ∀ j : Fin 9, nextGo (wantL e (8 * ((j : Nat) : Int))) (wantL e (8 * ((j : Nat) : Int))) 0 ((((if e = true then 39 else 19) + 8 * (j : Nat) + 25 : Nat)) : Int) = (9, 0) ∧ nextGo (wantL e (8 * ((j : Nat) : Int))) (wantL e (8 * ((j : Nat) : Int))) 0 ((((if e = true then 39 else 19) + 8 * (j : Nat) + 25 + 1 : Nat)) : Int) = (-1, 0) := by decide +kernel
theorem nextGo_snd (w : List Int) : ∀ (t : List Int) (i x : Int), 0 ≤ x → (∀ y ∈ t, 0 ≤ y) → 0 ≤ (nextGo w t i x).2 ∧ (nextGo w t i x).2 ≤ x := by
  intro t
  induction t with
  | nil =>
    intro i x h0 _
    rw [nextGo]
    split
    · simp only
      omega
    · split <;> simp only <;> omega
  | cons y t ih =>
    intro i x h0 hy
    have hy0 := hy y (List.mem_cons_self ..)
    rw [nextGo]
    split
    · simp only
      omega
    · have := ih (i + 1) (x - y) (by omega) (fun z hz => hy z (List.mem_cons_of_mem _ hz))
      omega
theorem take_cut2 (l : List Int) (m a b : Nat) (hb : b ≤ m) : cut (l.take m) a b = cut l a b := by
  unfold cut
  rw [List.take_take, Nat.min_eq_left hb]
theorem take_rd2 (l : List Int) (m i : Nat) (hi : i < m) : rd (l.take m) (i : Int) = rd l (i : Int) := by
  simp only [rd, Int.toNat_natCast, List.getD_eq_getElem?_getD]
  rw [List.getElem?_take_of_lt hi]
theorem want_pos (ext : Bool) (D : Int) (m : Int) (h0 : 0 ≤ m) : (m < 14 → nextGo (wantL ext D) (wantL ext D) 0 m = if m < 1 then (0, m) else (1, m - 1)) ∧ (ext = true → m < 39 → nextGo (wantL ext D) (wantL ext D) 0 m = if m < 1 then (0, m) else if m - 1 < 32 then (1, m - 1) else (2, m - 1 - 32)) ∧ (¬ ext = true → m < 19 → nextGo (wantL ext D) (wantL ext D) 0 m = if m < 1 then (0, m) else if m - 1 < 13 then (1, m - 1) else (2, m - 1 - 13)) := by
  refine ⟨fun h => ?_, fun e h => ?_, fun e h => ?_⟩
  · unfold wantL
    rw [nextGo]
    split
    · rfl
    · rw [nextGo, if_pos (by split <;> omega)]
      rfl
  · unfold wantL
    rw [if_pos e, if_pos e, nextGo]
    split
    · rfl
    · rw [nextGo]
      split
      · rfl
      · rw [nextGo, if_pos (by omega)]
        rfl
  · unfold wantL
    rw [if_neg e, if_neg e, nextGo]
    split
    · rfl
    · rw [nextGo]
      split
      · rfl
      · rw [nextGo, if_pos (by omega)]
        rfl
/-- Where the next level stands behind a frame's first ones, and behind more. -/
theorem nx_take {F : Fr} (hm : F.may) (T : List Int) (m : Nat) (hml : m ≤ (F.bits ++ T).length) :
    nx ((F.bits ++ T).take m) = nextGo (wantL F.ext (F.dat.length : Int)) (wantL F.ext (F.dat.length : Int)) 0 (m : Int) := by
  have hL : F.bits ++ T = F.pre ++ (ofI F.len 4 ++ (F.dat ++ T)) := by rw [F.bits_pre hm]; simp
  have h13 := pre_13' (F := F) (D := ofI F.len 4) (W := F.dat ++ T)
  have hdl := pre_dl (F := F) (D := ofI F.len 4) (W := F.dat ++ T) (ofI_length _ _)
  rw [← hL] at h13 hdl
  rw [len4 hm] at hdl
  have hd := F.dat_length hm
  have hdd : dl (F.bits ++ T) = (F.dat.length : Int) := by rw [hdl, hd]
  have hp := want_pos F.ext (F.dat.length : Int) (m : Int) (by omega)
  have hlen : ((F.bits ++ T).take m).length = m := by rw [List.length_take]; omega
  unfold nx Wd
  rw [hlen]
  by_cases c0 : m < 14
  · rw [if_pos c0, hp.1 (by omega), nextGo, nextGo]
    rfl
  rw [if_neg c0]
  have e13 := take_rd2 (F.bits ++ T) m 13 (by omega)
  have e12 := take_rd2 (F.bits ++ T) m 12 (by omega)
  simp only [Int.cast_ofNat_Int] at e13 e12
  rw [show rd ((F.bits ++ T).take m) 13 = rd (F.bits ++ T) 13 from e13]
  by_cases c1 : F.ext = true
  · rw [if_pos (h13.mpr c1)]
    by_cases c2 : m < 39
    · rw [if_pos c2, hp.2.1 c1 (by omega), nextGo]
      split
      · rfl
      · rw [nextGo]
        split
        · rfl
        · rw [nextGo, if_pos (by omega)]
          rfl
    · rw [if_neg c2]
      have e32 := take_rd2 (F.bits ++ T) m 32 (by omega)
      simp only [Int.cast_ofNat_Int] at e32
      have hq : dl ((F.bits ++ T).take m) = (F.dat.length : Int) := by
        rw [← hdd]
        unfold dl bytesOf
        rw [show rd ((F.bits ++ T).take m) 13 = rd (F.bits ++ T) 13 from e13, show rd ((F.bits ++ T).take m) 32 = rd (F.bits ++ T) 32 from e32, take_cut2 _ m 35 39 (by omega)]
        simp only [if_pos (h13.mpr c1)]
      rw [hq]
      unfold wantL
      rw [if_pos c1, if_pos c1]
  · rw [if_neg (fun e => c1 (h13.mp e))]
    by_cases c2 : m < 19
    · rw [if_pos c2, hp.2.2 c1 (by omega), nextGo]
      split
      · rfl
      · rw [nextGo]
        split
        · rfl
        · rw [nextGo, if_pos (by omega)]
          rfl
    · rw [if_neg c2]
      have hq : dl ((F.bits ++ T).take m) = (F.dat.length : Int) := by
        rw [← hdd]
        unfold dl bytesOf
        rw [show rd ((F.bits ++ T).take m) 13 = rd (F.bits ++ T) 13 from e13, show rd ((F.bits ++ T).take m) 12 = rd (F.bits ++ T) 12 from e12, take_cut2 _ m 15 19 (by omega)]
        simp only [if_neg (fun e => c1 (h13.mp e))]
      rw [hq]
      unfold wantL
      rw [if_neg c1, if_neg c1]
theorem goes_l0 {F : Fr} (hm : F.may) (k0 : Nat) (hend : ∀ k, k0 ≤ k → magnetolaw04_FieldGoes.l0 k F.all (wantL F.ext (F.dat.length : Int)) (wantL F.ext (F.dat.length : Int)) 8 (F.all.length : Int) = some true) (hk0 : 12 ≤ k0)
    (hend' : ∀ k last, k0 ≤ k → magnetolaw04_FieldGoes.l0 k F.all (wantL F.ext (F.dat.length : Int)) (wantL F.ext (F.dat.length : Int)) last (F.all.length : Int) = some true) (d : Nat) : ∀ (k i : Nat) (c : List Int) (last : Int), F.all.length - i = d → i ≤ F.all.length → d + k0 ≤ k → c.length = 9 →
    goL (wantL F.ext (F.dat.length : Int)) d i c last = true → 0 ≤ last →
    magnetolaw04_FieldGoes.l0 k F.all (wantL F.ext (F.dat.length : Int)) c last (i : Int) = some true := by
  have hsm := F.bits_small hm
  have hal := F.all_length
  induction d with
  | zero =>
    intro k i c last hd hi hk hc hg hla
    rw [goL, decide_eq_true_iff] at hg
    subst hg
    rw [show i = F.all.length from by omega]
    exact hend' k last (by omega)
  | succ d ih =>
    intro k i c last hd hi hk hc hg hla
    obtain ⟨k, rfl⟩ : ∃ m, k = m + 1 := ⟨k - 1, by omega⟩
    rw [goL, Bool.and_eq_true, Bool.and_eq_true, Bool.and_eq_true, decide_eq_true_iff, decide_eq_true_iff, decide_eq_true_iff] at hg
    obtain ⟨⟨⟨g1, g2⟩, g3⟩, g4⟩ := hg
    have hT : F.all = F.bits ++ (ofI ((crcN F.bits : Nat) : Int) 15 ++ List.replicate 10 1) := by unfold Fr.all; rw [List.append_assoc]
    have hn : nx (F.all.take i) = nextGo (wantL F.ext (F.dat.length : Int)) (wantL F.ext (F.dat.length : Int)) 0 (i : Int) := by
      rw [hT]
      exact nx_take hm _ i (by rw [← hT]; omega)
    have hs := nextGo_snd (wantL F.ext (F.dat.length : Int)) (wantL F.ext (F.dat.length : Int)) 0 (i : Int) (by omega) (by
      intro y hy
      simp only [wantL, List.mem_cons, List.not_mem_nil, or_false] at hy
      rcases hy with rfl | rfl | rfl | rfl | rfl | rfl | rfl | rfl | rfl
      · omega
      · split <;> omega
      · split <;> omega
      all_goals omega)
    generalize nextGo (wantL F.ext (F.dat.length : Int)) (wantL F.ext (F.dat.length : Int)) 0 (i : Int) = p at g1 g2 g3 g4 hn hs
    obtain ⟨x, y⟩ := p
    simp only at g1 g2 g3 g4 hs
    have hkd : magnetolaw04_kind.f k x = some x := kind_eq (by omega) (by omega) (by omega)
    rw [magnetolaw04_FieldGoes.l0.eq_2]
    rw [if_pos (by omega), if_pos (by omega), if_pos (by omega), Int.toNat_natCast, next_lv (isLv_take F.all_lv i) (by rw [List.length_take]; omega), hn]
    simp only [Option.bind_some]
    rw [if_neg (by omega)]
    simp only
    rw [hkd]
    simp only [Option.bind_some, if_true]
    rw [if_neg (by omega), if_neg (by omega), if_pos (by omega), if_pos (by omega), if_pos g3, wrap_in (by omega) (by omega), wrap_in (by omega) (by omega), show (i : Int) + 1 = ((i + 1 : Nat) : Int) from by omega]
    exact ih k (i + 1) _ x (by omega) (by omega) (by omega) (by rw [List.length_set]; exact hc) g4 (by omega)
theorem FieldGoes : magnetolaw04_FieldGoes.Pure := by
  intro a0 a1 a2 a3 a4 a5 a6 a7 a8 a9 a10 a11 _ _ h4 h5 h6 h7 h8 h9 h10 h11
  let F : Fr := ⟨a0, a1, a2, a3, a4, a5, a6, a7, a8, a9, a10, a11⟩
  have hb : F.isB := isB_of h4 h5 h6 h7 h8 h9 h10 h11
  refine ⟨1000, ?_⟩
  show magnetolaw04_FieldGoes.f 1000 F.id F.ext F.rtr F.len F.b0 F.b1 F.b2 F.b3 F.b4 F.b5 F.b6 F.b7 = some true
  clear_value F
  clear h4 h5 h6 h7 h8 h9 h10 h11
  unfold magnetolaw04_FieldGoes.f
  by_cases hm : F.may
  · have hsm := F.bits_small hm
    have hal := F.all_length
    have hbl := F.bits_length hm
    have hd := F.dat_length hm
    have h0 := hm.2.2.1
    have h8 := hm.2.2.2.1
    have hT : F.all = F.bits ++ (ofI ((crcN F.bits : Nat) : Int) 15 ++ List.replicate 10 1) := by unfold Fr.all; rw [List.append_assoc]
    obtain ⟨j, hj9, hj⟩ : ∃ j : Nat, j < 9 ∧ F.dat.length = 8 * j := by
      by_cases c : F.rtr = true
      · rw [if_pos c] at hd
        exact ⟨0, by omega, by omega⟩
      · rw [if_neg c] at hd
        exact ⟨F.len.toNat, by omega, by omega⟩
    have hjd : (F.dat.length : Int) = 8 * (j : Int) := by omega
    have htot : F.all.length = (if F.ext = true then 39 else 19) + 8 * j + 25 := by
      rw [hal]
      split at hbl <;> split at hbl <;> split at hd <;> simp_all <;> omega
    have hgo := goL_ok F.ext ⟨j, hj9⟩
    have hge := goEnd_ok F.ext ⟨j, hj9⟩
    simp only [← hjd] at hgo hge
    rw [← htot] at hgo hge
    have hnl : nx F.all = (9, 0) := by
      have := nx_take hm (ofI ((crcN F.bits : Nat) : Int) 15 ++ List.replicate 10 1) F.all.length (by rw [← hT]; omega)
      rw [← hT, List.take_length] at this
      rw [this, hge.1]
    have hnl1 : nx (F.all ++ [1]) = (-1, 0) := by
      have := nx_take hm (ofI ((crcN F.bits : Nat) : Int) 15 ++ List.replicate 10 1 ++ [1]) (F.all.length + 1) (by rw [← List.append_assoc, ← hT, List.length_append]; simp)
      rw [← List.append_assoc, ← hT, List.take_of_length_le (by rw [List.length_append]; simp)] at this
      rw [this, hge.2]
    have hend : ∀ k last, 800 ≤ k → magnetolaw04_FieldGoes.l0 k F.all (wantL F.ext (F.dat.length : Int)) (wantL F.ext (F.dat.length : Int)) last (F.all.length : Int) = some true := by
      intro k last hk
      obtain ⟨k, rfl⟩ : ∃ m, k = m + 1 := ⟨k - 1, by omega⟩
      have hk9 : magnetolaw04_kind.f k 9 = some 9 := kind_eq (by omega) (by omega) (by omega)
      rw [magnetolaw04_FieldGoes.l0.eq_2]
      have hN : field_Next.f F.all = some (9, 0, 0) := by rw [next_lv F.all_lv (by omega), hnl]; rfl
      have hN1 : field_Next.f (F.all ++ [1]) = some (0, 0, 12) := by rw [next_lv (isLv_append.mpr ⟨F.all_lv, fun x hx => .inr (by simpa using hx)⟩) (by rw [List.length_append]; simp; omega), hnl1]; rfl
      rw [if_neg (by omega), hN]
      simp only [Option.bind_some]
      rw [if_pos (by simp only [List.length_nil]; omega)]
      (try simp only [Option.bind_some])
      rw [List.nil_append, if_pos (by omega), hN1]
      simp only [Option.bind_some]
      rw [ints04_eq _ _ (by simp [wantL]) k (by simp [wantL]; omega), decide_eq_true rfl]
      simp only [Option.bind_some, if_true]
      rw [hk9]
      simp only [Option.bind_some, if_true]
      rw [awake04 (by omega)]
      rfl
    have hl0 : ∀ k, 970 ≤ k → magnetolaw04_FieldGoes.l0 k F.all (wantL F.ext (F.dat.length : Int)) (List.replicate 9 0) 0 0 = some true := by
      intro k hk
      exact goes_l0 hm 800 (fun k hk => hend k 8 hk) (by omega) hend F.all.length k 0 _ 0 (by omega) (by omega) (by omega) rfl hgo (by omega)
    have hj1 : ∀ (w : List Int), w = wantL F.ext (F.dat.length : Int) → magnetolaw04_FieldGoes.j1 999 F.all w = some true := by
      rintro w rfl
      simp only [magnetolaw04_FieldGoes.j1]
      exact hl0 _ (by omega)
    have hj0 : ∀ (w : List Int), w = [1, if F.ext = true then 32 else 13, if F.ext = true then 6 else 5, 8 * F.len, 15, 1, 1, 1, 7] → magnetolaw04_FieldGoes.j0 1000 F.all w F.id F.ext F.rtr F.len F.b0 F.b1 F.b2 F.b3 F.b4 F.b5 F.b6 F.b7 = some true := by
      rintro w rfl
      simp only [magnetolaw04_FieldGoes.j0]
      by_cases c : F.rtr = true
      · rw [if_pos c] at hd
        rw [if_pos c, if_pos (by simp)]
        refine hj1 _ ?_
        unfold wantL
        rw [hd]
        rfl
      · rw [if_neg c] at hd
        rw [if_neg c]
        refine hj1 _ ?_
        unfold wantL
        rw [hd]
    rw [fall_yes F hb hm (by omega)]
    simp only [Option.bind_some, if_true]
    rw [wrap_in (by omega) (by omega)]
    by_cases c : F.ext = true
    · rw [if_pos c, if_pos (by simp), if_pos (by simp)]
      refine hj0 _ ?_
      rw [if_pos c, if_pos c]
      rfl
    · rw [if_neg c]
      refine hj0 _ ?_
      rw [if_neg c, if_neg c]
  · rw [fall_no F hb hm]
    simp only [Option.bind_some]
    rw [if_neg (by decide), if_pos (by rfl), awake04 (by omega)]
    rfl
end Go.Proofs.Ytakemodmdhglnaa.Pure
