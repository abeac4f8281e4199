/- Texts SCTk, SCParts, STop: an evaluator of the model's code, proved sound, and what the program's functions do, for all inputs. -/
import Derived.Test.YtmhkinlckjjpoaaMS4
namespace Go.AK
open Go Go.RowKit Go.Proofs
set_option linter.unusedVariables false
set_option maxRecDepth 100000
theorem takeS_err (l : List Int) (e : Int × Int) : l.foldl takeS (.error e) = .error e := by
  induction l with
  | nil => rfl
  | cons x t ih => exact ih
theorem take_pre {L o : List Int} (h : takeSt L = .ok (L, o)) (i : Nat) : ∃ u, takeSt (L.take i) = .ok (L.take i, u) := by
  cases hc : takeSt (L.take i) with
  | error e =>
    have : takeSt L = .error e := by
      unfold takeSt at hc ⊢
      rw [← List.take_append_drop i L, List.foldl_append, hc, takeS_err]
    rw [this] at h; cases h
  | ok v =>
    obtain ⟨q, u⟩ := v
    obtain ⟨rfl, _⟩ := takeSt_ok _ q u hc
    exact ⟨u, rfl⟩
theorem take_last {L : List Int} {i : Nat} (h : i < L.length) (h0 : 0 < i) : (L.take i).getLast? = some (L[i - 1]'(by omega)) := by
  rw [List.getLast?_eq_getElem?, List.length_take, Nat.min_eq_left (by omega), List.getElem?_take_of_lt (by omega), List.getElem?_eq_getElem (by omega)]
set_option maxHeartbeats 8000000 in
theorem stake_spec (L o : List Int) (hl : isLv L) (hL : L.length < 100000) (hok : takeSt L = .ok (L, o)) (h5 : tailRun L ≤ 4) : ACall Try.prog 16 [.rs (ints L) 0 1 L.length] [] fun r H => ∃ (c : Nat) (Z : List Int), o.length ≤ c ∧ Z.take o.length = o ∧
    r = .ret (.tup [.sl (some (0, 0)) 1 o.length c, .i .i64 0, .i .i64 0]) ∧ H = [.c (ints Z)] := by
  refine ACall.gh ?_
  refine ACall.enter tok false Try.func16 rfl rfl rfl (AW_sound (ip := false) tok _ _ _ _ ?_)
  conv => whnf
  refine ACall.mono (chkLv_spec L (by omega) hl) ?_; rintro r H ⟨rfl, rfl⟩
  conv => whnf
  refine ⟨⟨by omega, by omega, by show (8 : Int) * L.length ≤ _; omega, by omega⟩, ?_⟩
  conv => whnf
  refine ALoop.ind (ip := false) tok (fun m r H => ∃ (i c : Nat) (u Z : List Int), i ≤ L.length ∧ m = L.length - i ∧ takeSt (L.take i) = .ok (L.take i, u) ∧ u.length ≤ c ∧ Z.take u.length = u ∧ H = [.c (ints Z)] ∧
    r = [(23, .i .i64 i), (22, .i .i64 L.length), (21, .rs (ints L) 0 1 L.length), (0, .rs (ints L) 0 1 L.length), (7, .i .i64 (tailRun (L.take i) : Nat)), (8, .i .i64 0), (9, .i .i64 0), (6, .sl (some (0, 0)) 1 u.length c)]) L.length ?_ ?_
  · refine Gh.regs [23, 22, 21, 0, 7, 8, 9, 6] (Gh.of ⟨0, L.length, [], List.replicate L.length 0, by omega, by omega, rfl, by simp, rfl, ?_, rfl⟩)
    show [Blk.c (List.replicate (Int.toNat (L.length : Int)) [AV.i .i64 0]).flatten] = _
    rw [Int.toNat_natCast, nums_replicate]
  · rintro m r H ⟨i, c, u, Z, hi, rfl, hu, hc, hZ, rfl, rfl⟩
    by_cases h : (i : Int) < L.length
    · have hil : i < L.length := by omega
      have htl : (L.take i).length = i := by rw [List.length_take]; omega
      obtain ⟨u2, hu2⟩ := take_pre hok (i + 1)
      have hul := (takeSt_ok _ _ _ hu).2.1
      have ht5 := (takeSt_ok _ _ _ hu).2.2.1
      have htr := tailRun_le (L.take i)
      rw [htl] at hul htr
      have hsn : L.take (i + 1) = L.take i ++ [L[i]] := List.take_succ_eq_append_getElem hil
      have hst := hu2
      rw [hsn, takeSt_snoc, hu] at hst
      simp only [takeS] at hst
      have hrun : tailRun (L.take (i + 1)) = if (L.take i).getLast? = some L[i] then tailRun (L.take i) + 1 else 1 := by rw [hsn, tailRun_snoc]
      have hZl : u.length ≤ Z.length := by
        have := congrArg List.length hZ
        rw [List.length_take] at this; omega
      have hZ1 : List.take (u.length * 1) (List.drop 0 (ints Z)) ++ ints [L[i]] = ints (u ++ [L[i]]) := by
        rw [List.drop_zero, Nat.mul_one, nums_take, hZ, ← nums_append]
      have hprev : 0 < i → L[i - 1]? = some (L[i - 1]'(by omega)) := fun h0 => List.getElem?_eq_getElem (by omega)
      have hw1 : 0 < i → IntKind.i64.wrap ((i : Int) - 1) = ((i - 1 : Nat) : Int) := fun h0 => by rw [w64 (by omega) (by omega)]; omega
      generalize hX : L[i] = x at hsn hst hrun hZ1
      conv => whnf
      refine acond_t (decide_eq_true h) ?_
      conv => whnf
      refine ⟨⟨by omega, h⟩, ?_⟩
      conv => whnf
      refine aget_num (i := i) (by omega) ((List.getElem?_eq_getElem hil).trans (congrArg some hX)) ?_
      conv => whnf
      by_cases ha : tailRun (L.take i) = 5
      · -- one that is added
        have ha5 : (((tailRun (L.take i) : Nat) : Int) == 5) = true := by rw [ha]; rfl
        have h0 : 0 < i := by omega
        rw [if_pos (by omega), take_last hil h0] at hst
        have hne : ¬ L[i - 1] = x := fun e => by rw [if_pos (congrArg some e)] at hst; cases hst
        rw [if_neg (fun e => by injection e with e; exact hne e)] at hst
        have hu2e : u2 = u := by injection hst with hst; injection hst with _ hst; exact hst.symm
        have hbe : (x == L[i - 1]) = false := beq_eq_false_iff_ne.2 (fun e => hne e.symm)
        have hig : decide ((i : Int) > 0) = true := decide_eq_true (by omega)
        repeat (refine acond_t ha5 ?_; conv => whnf)
        refine ⟨⟨by rw [hw1 h0]; omega, by rw [hw1 h0]; omega⟩, ?_⟩
        conv => whnf
        repeat (refine acond_t ha5 ?_; conv => whnf)
        refine aget_num (i := i - 1) (by rw [hw1 h0]; omega) (hprev h0) ?_
        conv => whnf
        repeat (refine acond_t ha5 ?_; conv => whnf)
        repeat (refine acond_f hbe ?_; conv => whnf)
        repeat (refine acond_t hig ?_; conv => whnf)
        refine ⟨⟨by rw [hw1 h0]; omega, by rw [hw1 h0]; omega⟩, ?_⟩
        conv => whnf
        repeat (refine acond_t hig ?_; conv => whnf)
        refine aget_num (i := i - 1) (by rw [hw1 h0]; omega) (hprev h0) ?_
        conv => whnf
        repeat (refine acond_t hig ?_; conv => whnf)
        repeat (refine acond_f hbe ?_; conv => whnf)
        refine acond_f (by rw [ha5]; rfl) ?_
        conv => whnf
        have hr2 : tailRun (L.take (i + 1)) = 1 := by rw [hrun, take_last hil h0, if_neg (fun e => by injection e with e; exact hne e)]
        refine Gh.regs [23, 22, 21, 0, 7, 8, 9, 6] (Gh.of ⟨L.length - (i + 1), by omega, i + 1, c, u, Z, by omega, rfl, by rw [← hu2e]; exact hu2, hc, hZ, rfl, ?_⟩)
        rw [w64 (by omega) (by omega), hr2]; rfl
      · have ha5 : (((tailRun (L.take i) : Nat) : Int) == 5) = false := beq_eq_false_iff_ne.2 (by omega)
        rw [if_neg (by omega)] at hst
        have hu2e : u2 = u ++ [x] := by injection hst with hst; injection hst with _ hst; exact hst.symm
        have hul2 : (u ++ [x]).length = u.length + 1 := by rw [List.length_append]; rfl
        repeat (refine acond_f ha5 ?_; conv => whnf)
        by_cases h0 : 0 < i
        · have hig : decide ((i : Int) > 0) = true := decide_eq_true (by omega)
          repeat (refine acond_t hig ?_; conv => whnf)
          refine ⟨⟨by rw [hw1 h0]; omega, by rw [hw1 h0]; omega⟩, ?_⟩
          conv => whnf
          repeat (refine acond_t hig ?_; conv => whnf)
          refine aget_num (i := i - 1) (by rw [hw1 h0]; omega) (hprev h0) ?_
          conv => whnf
          repeat (refine acond_t hig ?_; conv => whnf)
          by_cases he : x = L[i - 1]
          · have hr2 : tailRun (L.take (i + 1)) = tailRun (L.take i) + 1 := by rw [hrun, take_last hil h0, if_pos (congrArg some he.symm)]
            repeat (refine acond_t (beq_iff_eq.2 he) ?_; conv => whnf)
            refine acond_t (by rw [ha5]; rfl) ?_
            conv => whnf
            refine ⟨by show 0 + u.length * 1 ≤ (ints Z).length; rw [nums_length]; omega, ?_⟩
            conv => whnf
            refine ⟨by show 1 ≤ (1 : Nat); omega, ?_⟩
            conv => whnf
            refine ⟨rfl, by (try dsimp only); omega, by omega, fun g hg => ?_⟩
            conv => whnf
            refine Gh.regs [23, 22, 21, 0, 7, 8, 9, 6] (Gh.sel [2] rfl (Gh.of ⟨L.length - (i + 1), by omega, i + 1, g, u ++ [x], u ++ [x], by omega, rfl, by rw [← hu2e]; exact hu2, by rw [hul2]; exact hg, by rw [List.take_length], ?_, ?_⟩))
            · show [Blk.c (subs _ (List.take (u.length * 1) (List.drop 0 (ints Z)) ++ ints [x]))] = _
              rw [hZ1, subs_nums]
            · refine keep_eq (show keepR _ _ = [_, _, _, _, _, _, _, _] from rfl) ?_
              simp only [subG, sub, subs_nums]
              rw [w64 (x := (i : Int) + 1) (by omega) (by omega), w64 (by omega) (by omega), hr2, hul2]; rfl
          · have hr2 : tailRun (L.take (i + 1)) = 1 := by rw [hrun, take_last hil h0, if_neg (fun e => by injection e with e; exact he e.symm)]
            repeat (refine acond_f (beq_eq_false_iff_ne.2 he) ?_; conv => whnf)
            refine acond_t (by rw [ha5]; rfl) ?_
            conv => whnf
            refine ⟨by show 0 + u.length * 1 ≤ (ints Z).length; rw [nums_length]; omega, ?_⟩
            conv => whnf
            refine ⟨by show 1 ≤ (1 : Nat); omega, ?_⟩
            conv => whnf
            refine ⟨rfl, by (try dsimp only); omega, by omega, fun g hg => ?_⟩
            conv => whnf
            refine Gh.regs [23, 22, 21, 0, 7, 8, 9, 6] (Gh.sel [2] rfl (Gh.of ⟨L.length - (i + 1), by omega, i + 1, g, u ++ [x], u ++ [x], by omega, rfl, by rw [← hu2e]; exact hu2, by rw [hul2]; exact hg, by rw [List.take_length], ?_, ?_⟩))
            · show [Blk.c (subs _ (List.take (u.length * 1) (List.drop 0 (ints Z)) ++ ints [x]))] = _
              rw [hZ1, subs_nums]
            · refine keep_eq (show keepR _ _ = [_, _, _, _, _, _, _, _] from rfl) ?_
              simp only [subG, sub, subs_nums]
              rw [w64 (x := (i : Int) + 1) (by omega) (by omega), hr2, hul2]; rfl
        · have hig : decide ((i : Int) > 0) = false := decide_eq_false (by omega)
          have hi0 : i = 0 := by omega
          have hr2 : tailRun (L.take (i + 1)) = 1 := by rw [hrun, hi0]; rfl
          repeat (refine acond_f hig ?_; conv => whnf)
          refine acond_t (by rw [ha5]; rfl) ?_
          conv => whnf
          refine ⟨by show 0 + u.length * 1 ≤ (ints Z).length; rw [nums_length]; omega, ?_⟩
          conv => whnf
          refine ⟨by show 1 ≤ (1 : Nat); omega, ?_⟩
          conv => whnf
          refine ⟨rfl, by (try dsimp only); omega, by omega, fun g hg => ?_⟩
          conv => whnf
          refine Gh.regs [23, 22, 21, 0, 7, 8, 9, 6] (Gh.sel [2] rfl (Gh.of ⟨L.length - (i + 1), by omega, i + 1, g, u ++ [x], u ++ [x], by omega, rfl, by rw [← hu2e]; exact hu2, by rw [hul2]; exact hg, by rw [List.take_length], ?_, ?_⟩))
          · show [Blk.c (subs _ (List.take (u.length * 1) (List.drop 0 (ints Z)) ++ ints [x]))] = _
            rw [hZ1, subs_nums]
          · refine keep_eq (show keepR _ _ = [_, _, _, _, _, _, _, _] from rfl) ?_
            simp only [subG, sub, subs_nums]
            rw [w64 (x := (i : Int) + 1) (by omega) (by omega), hr2, hul2]; rfl
    · have hie : i = L.length := by omega
      rw [hie, List.take_length, hok] at hu
      have huo : u = o := by injection hu with hu; injection hu with _ hu; exact hu.symm
      have ha5 : (((tailRun (L.take i) : Nat) : Int) == 5) = false := by rw [hie, List.take_length]; exact beq_eq_false_iff_ne.2 (by omega)
      conv => whnf
      refine acond_f (decide_eq_false h) ?_
      conv => whnf
      repeat (refine acond_f ha5 ?_; conv => whnf)
      refine GhR.sel [0] rfl (GhR.of ⟨c, Z, by rw [← huo]; exact hc, by rw [← huo]; exact hZ, by rw [← huo]; rfl, ?_⟩)
      show [Blk.c (subs _ (ints _))] = _
      rw [subs_nums]
end Go.AK
namespace Go.AK
open Go Go.RowKit Go.Proofs
set_option linter.unusedVariables false
set_option maxRecDepth 100000
theorem enc_left {F : Fr} {ack : Bool} {i : Nat} (h : i < (stuffed F.coreL).length) : (F.encL ack)[i]? = some (stuffed F.coreL)[i] := by
  unfold Fr.encL
  rw [List.getElem?_append_left h, List.getElem?_eq_getElem h]
theorem enc_right {F : Fr} {ack : Bool} {i : Nat} (h : i < 10) : (F.encL ack)[(stuffed F.coreL).length + i]? = some (if i = 1 ∧ ack = true then 0 else 1) := by
  unfold Fr.encL
  rw [List.getElem?_append_right (by omega), Nat.add_sub_cancel_left]
  have hc : i = 0 ∨ i = 1 ∨ i = 2 ∨ i = 3 ∨ i = 4 ∨ i = 5 ∨ i = 6 ∨ i = 7 ∨ i = 8 ∨ i = 9 := by omega
  rcases hc with rfl | rfl | rfl | rfl | rfl | rfl | rfl | rfl | rfl | rfl <;> first | rfl | (cases ack <;> rfl)
theorem runs_five (l : List Int) (i : Nat) : tailRun ((stuffed l).take i) ≤ 5 := by
  obtain ⟨u, hu⟩ := take_pre (takeSt_add (l := l)) i
  exact (takeSt_ok _ _ _ hu).2.2.1
set_option maxHeartbeats 8000000 in
theorem lawParts (F : Fr) (hF : F.ok) (ack : Bool) : ACall Try.prog 8 [F.av, .b ack] [] fun r H => r = .ret (.b true) ∧ H = [] := by
  refine ACall.gh ?_
  refine ACall.enter tok false Try.func8 rfl rfl rfl (AW_sound (ip := false) tok _ _ _ _ ?_)
  conv => whnf
  refine ACall.frameH [] [] rfl (args' := [F.av, .b ack]) (Hc := []) rfl rfl (encode_spec F hF ack) ?_
  rintro r H (⟨hno, rfl, rfl⟩ | ⟨hm, c, hc, rfl, rfl⟩)
  · refine ⟨.inl rfl, [.c F.cells], rfl, ?_⟩
    conv => whnf
    refine ACall.frameH [] [] rfl (args' := [F.av]) (Hc := []) rfl rfl (fall_spec F hF) ?_
    rintro r H (⟨_, rfl, rfl⟩ | ⟨hm, _⟩)
    · refine ⟨.inl rfl, [.c F.cells], rfl, ?_⟩
      conv => whnf
      refine ACall.frameH [] [] rfl (args' := []) (Hc := []) rfl rfl awake6_spec ?_
      rintro r H ⟨rfl, rfl⟩
      refine ⟨.inl rfl, [.c F.cells], rfl, ?_⟩
      conv => whnf
      exact GhR.sel [] rfl (GhR.of ⟨rfl, rfl⟩)
    · exact absurd hm hno
  have hle := enc_le hm ack
  have hel := F.enc_len ack
  obtain ⟨e1, e2, e3⟩ := all_split hm
  have hcl := Fr.core_len hm
  have hclv := Fr.core_lv hm
  have hol := Fr.out_le hm
  have hst := stuffed_length F.coreL
  have hmost := stuffed_most F.coreL
  have htk := stake_spec (stuffed F.coreL) F.coreL (stuffed_lv hclv) (by omega) takeSt_add (stuffed_tail _)
  have hel1 := fun i => enc_left (F := F) (ack := ack) (i := i)
  have hel2 := fun i => enc_right (F := F) (ack := ack) (i := i)
  have hcut1 : cut (F.encL ack) 0 (stuffed F.coreL).length = stuffed F.coreL := by unfold cut Fr.encL; rw [List.drop_zero, List.take_left]
  have hcnt := count_spec F.coreL hclv (by omega)
  have hlast : ∀ i, 0 < i → i < (stuffed F.coreL).length → ((stuffed F.coreL).take i).getLast? = (stuffed F.coreL)[i - 1]? := fun i h0 h => by
    rw [take_last h h0, List.getElem?_eq_getElem (by omega)]
  have hrunS : ∀ i (h : i < (stuffed F.coreL).length), tailRun ((stuffed F.coreL).take (i + 1)) = if ((stuffed F.coreL).take i).getLast? = some (stuffed F.coreL)[i] then tailRun ((stuffed F.coreL).take i) + 1 else 1 := fun i h => by
    rw [List.take_succ_eq_append_getElem h, tailRun_snoc]
  have hfive := runs_five F.coreL
  have hlongest := longest_spec F.out F.ext (by omega) (by omega)
  have hlongL : ((F.encL ack).length : Int) ≤ longL F.out F.ext := by
    unfold longL
    rw [hel]
    split <;> split at hcl <;> first | omega | (rename_i a b; exact absurd a b) | (rename_i a b; exact absurd b a)
  have hcutA : cut F.allL 0 F.coreL.length = F.coreL := by unfold cut; rw [List.drop_zero, show F.coreL.length = F.allL.length - 10 from by omega]; exact e1
  have hall := fall_spec F hF
  unfold BitsK at hall
  generalize F.encL ack = E at hc hle hel hel1 hel2 hcut1 hlongL
  generalize F.allL = A at e3 hcutA hall
  generalize hS : stuffed F.coreL = S at hel htk hel1 hel2 hcut1 hst hmost hlast hrunS hfive hcnt
  refine ⟨.inl rfl, [.c F.cells, .c (ints E)], (by show [_, Blk.c (subs _ (ints _))] = _; first | (rw [subs_nums]; done) | (rw [subs_nums]; rfl)), ?_⟩
  conv => whnf
  refine ACall.frameH [] [] rfl (args' := [F.av]) (Hc := []) rfl rfl hall ?_
  rintro r H (⟨hno, _⟩ | ⟨_, c2, hc2, rfl, rfl⟩)
  · exact absurd hm hno
  refine ⟨.inl rfl, [.c F.cells, .c (ints E), .c (ints A)], (by show [_, _, Blk.c (subs _ (ints _))] = _; first | (rw [subs_nums]; done) | (rw [subs_nums]; rfl)), ?_⟩
  conv => whnf
  have d1 : decide ((E.length : Int) < 44) = false := decide_eq_false (by omega)
  have d2 : decide ((A.length : Int) < 44) = false := decide_eq_false (by rw [e3]; split at hcl <;> omega)
  repeat (first | (refine acond_f d1 ?_; conv => whnf) | (refine acond_f d2 ?_; conv => whnf))
  have hcle : F.coreL.length ≤ 118 := by split at hcl <;> omega
  have hat : IntKind.i64.wrap ((E.length : Int) - 10) = ((S.length : Nat) : Int) := by rw [w64 (by omega) (by omega)]; omega
  rw [hat]
  refine ⟨by omega, ?_⟩
  conv => whnf
  have htk2 := ACall.args (show ACall Try.prog 16 [.rs (ints (cut E 0 S.length)) 0 1 (cut E 0 S.length).length] [] _ by rw [hcut1]; exact htk) (VLe.cut (a := 0) (b := S.length) (o := 0) (n := S.length) (by omega) (by omega) rfl rfl VLe.nil)
  refine ACall.frameH [] [1] rfl (args' := [.rs (ints E) 0 1 S.length]) (Hc := []) (by show [AV.rs (subs _ (ints _)) _ _ _] = _; first | (rw [subs_nums]; done) | (rw [subs_nums]; rfl)) rfl htk2 ?_
  rintro r H ⟨c3, Z, hc3, hZ, rfl, rfl⟩
  refine ⟨.inr ⟨rfl, by simp [nroH, nroB, nros_nums]⟩, [.c F.cells, .c (ints E), .c (ints A), .c (ints Z)], (by show [_, _, _, Blk.c (subs _ (ints _))] = _; first | (rw [subs_nums]; done) | (rw [subs_nums]; rfl)), ?_⟩
  conv => whnf
  have hZl : F.coreL.length ≤ Z.length := by
    have := congrArg List.length hZ
    rw [List.length_take] at this; omega
  have hcA : IntKind.i64.wrap ((A.length : Int) - 10) = ((F.coreL.length : Nat) : Int) := by rw [w64 (by omega) (by omega)]; omega
  refine ⟨by rw [hcA]; omega, ?_⟩
  conv => whnf
  have hcutZ : cut Z 0 F.coreL.length = F.coreL := by unfold cut; rw [List.drop_zero]; exact hZ
  have hints := ints_spec F.coreL F.coreL (by omega)
  rw [decide_eq_true rfl] at hints
  have hints2 : ACall Try.prog 17 [.rs (ints Z) 0 1 F.coreL.length, .rs (ints A) 0 1 F.coreL.length] [] fun r H => r = .ret (.b true) ∧ H = [] := by
    have h1 := VLe.cut (L := A) (a := 0) (b := F.coreL.length) (o := 0) (n := F.coreL.length) (by omega) (by omega) rfl rfl VLe.nil
    have h2 := VLe.cut (L := Z) (a := 0) (b := F.coreL.length) (o := 0) (n := F.coreL.length) (by omega) (by omega) rfl rfl h1
    rw [hcutA, hcutZ] at h2
    exact ACall.args hints h2
  refine ACall.frameH [] [3, 2] rfl (args' := [.rs (ints Z) 0 1 F.coreL.length, .rs (ints A) 0 1 F.coreL.length]) (Hc := []) (by
    show [AV.rs (subs _ (ints _)) _ _ _, AV.rs (subs _ (ints _)) 0 1 (Int.toNat (IntKind.i64.wrap ((A.length : Int) - 10)) - 0)] = _
    rw [subs_nums, subs_nums, hcA]; rfl) rfl hints2 ?_
  rintro r H ⟨rfl, rfl⟩
  refine ⟨.inr ⟨rfl, rfl⟩, [.c F.cells, .c (ints E), .c (ints A), .c (ints Z)], rfl, ?_⟩
  conv => whnf
  refine ALoop.ind (ip := false) tok (fun m r H => ∃ (i : Nat), i ≤ S.length ∧ m = S.length - i ∧ H = [.c F.cells, .c (ints E), .c (ints A), .c (ints Z)] ∧
    r = [(14, .i .i64 i), (13, .i .i64 (tailRun (S.take i) : Nat)), (9, .i .i64 S.length), (5, .sl (some (1, 0)) 1 E.length c), (7, .sl (some (2, 0)) 1 A.length c2), (1, .b ack), (2, .p (some (0, 0)))]) S.length ?_ ?_
  · exact Gh.regs [14, 13, 9, 5, 7, 1, 2] (Gh.of ⟨0, by omega, by omega, rfl, rfl⟩)
  · rintro m r H ⟨i, hi, rfl, rfl, rfl⟩
    by_cases h : (i : Int) < S.length
    · have hil : i < S.length := by omega
      have hr := hrunS i hil
      have h5 := hfive (i + 1)
      have h5' := hfive i
      conv => whnf
      refine acond_t (decide_eq_true h) ?_
      conv => whnf
      refine ADraw.of tok mixed false [0, 1, 2, 3, 4, 5, 6, 7, 8, 9, 10, 11, 12, 13] [] (by kernel_rfl) (fun _ _ _ _ h => h) ?_
      conv => whnf
      by_cases h0 : 0 < i
      · have hig : decide ((i : Int) > 0) = true := decide_eq_true (by omega)
        have hw1 : IntKind.i64.wrap ((i : Int) - 1) = ((i - 1 : Nat) : Int) := by rw [w64 (by omega) (by omega)]; omega
        repeat (refine acond_t hig ?_; conv => whnf)
        refine ⟨⟨by omega, by omega⟩, ?_⟩
        conv => whnf
        repeat (refine acond_t hig ?_; conv => whnf)
        refine aget_num (i := i) (by omega) (hel1 i hil) ?_
        conv => whnf
        repeat (refine acond_t hig ?_; conv => whnf)
        refine ⟨⟨by rw [hw1]; omega, by rw [hw1]; omega⟩, ?_⟩
        conv => whnf
        repeat (refine acond_t hig ?_; conv => whnf)
        refine aget_num (i := i - 1) (by rw [hw1]; omega) (hel1 (i - 1) (by omega)) ?_
        conv => whnf
        repeat (refine acond_t hig ?_; conv => whnf)
        rw [hlast i h0 hil, List.getElem?_eq_getElem (by omega)] at hr
        by_cases he : S[i] = S[i - 1]
        · rw [if_pos (congrArg some he.symm)] at hr
          have hwr : IntKind.i64.wrap (((tailRun (S.take i) : Nat) : Int) + 1) = ((tailRun (S.take (i + 1)) : Nat) : Int) := by rw [w64 (by omega) (by omega), hr]; omega
          refine acond_t (beq_iff_eq.2 he) ?_
          conv => whnf
          refine acond_f (decide_eq_false (by rw [hwr]; omega)) ?_
          conv => whnf
          refine Gh.regs [14, 13, 9, 5, 7, 1, 2] (Gh.of ⟨S.length - (i + 1), by omega, i + 1, by omega, rfl, rfl, ?_⟩)
          rw [w64 (x := (i : Int) + 1) (by omega) (by omega), hwr]; rfl
        · rw [if_neg (fun e => by injection e with e; exact he e.symm)] at hr
          refine acond_f (beq_eq_false_iff_ne.2 he) ?_
          conv => whnf
          refine Gh.regs [14, 13, 9, 5, 7, 1, 2] (Gh.of ⟨S.length - (i + 1), by omega, i + 1, by omega, rfl, rfl, ?_⟩)
          rw [w64 (x := (i : Int) + 1) (by omega) (by omega), hr]; rfl
      · have hig : decide ((i : Int) > 0) = false := decide_eq_false (by omega)
        have hr1 : tailRun (S.take (i + 1)) = 1 := by rw [hr, show S.take i = [] from by rw [show i = 0 from by omega]; rfl, if_neg (by simp)]
        repeat (refine acond_f hig ?_; conv => whnf)
        refine Gh.regs [14, 13, 9, 5, 7, 1, 2] (Gh.of ⟨S.length - (i + 1), by omega, i + 1, by omega, rfl, rfl, ?_⟩)
        rw [w64 (x := (i : Int) + 1) (by omega) (by omega), hr1]; rfl
    · conv => whnf
      refine acond_f (decide_eq_false h) ?_
      conv => whnf
      refine ALoop.ind (ip := false) tok (fun m r H => ∃ (i : Nat), i ≤ 10 ∧ m = 10 - i ∧ H = [.c F.cells, .c (ints E), .c (ints A), .c (ints Z)] ∧
        r = [(15, .i .i64 i), (9, .i .i64 S.length), (5, .sl (some (1, 0)) 1 E.length c), (7, .sl (some (2, 0)) 1 A.length c2), (1, .b ack), (2, .p (some (0, 0)))]) 10 ?_ ?_
      · exact Gh.regs [15, 9, 5, 7, 1, 2] (Gh.of ⟨0, by omega, by omega, rfl, rfl⟩)
      · rintro m r H ⟨k, hk, rfl, rfl, rfl⟩
        by_cases h2 : (k : Int) < 10
        · have hk10 : k < 10 := by omega
          have hwk : IntKind.i64.wrap ((S.length : Int) + k) = ((S.length + k : Nat) : Int) := by rw [w64 (by omega) (by omega)]; omega
          conv => whnf
          refine acond_t (decide_eq_true h2) ?_
          conv => whnf
          refine ⟨⟨by rw [hwk]; omega, by rw [hwk]; omega⟩, ?_⟩
          conv => whnf
          refine aget_num (i := S.length + k) (by rw [hwk]; omega) (hel2 k hk10) ?_
          by_cases hk1 : k = 1
          · have hb1 : ((k : Int) == 1) = true := by rw [hk1]; rfl
            conv => whnf
            repeat (refine acond_t hb1 ?_; conv => whnf)
            have hx : (((if k = 1 ∧ ack = true then (0 : Int) else 1) == 0) != ack) = false := by rw [hk1]; cases ack <;> rfl
            refine acond_f hx ?_
            conv => whnf
            refine Gh.regs [15, 9, 5, 7, 1, 2] (Gh.of ⟨10 - (k + 1), by omega, k + 1, by omega, rfl, rfl, ?_⟩)
            rw [w64 (x := (k : Int) + 1) (by omega) (by omega)]; rfl
          · have hb1 : ((k : Int) == 1) = false := beq_eq_false_iff_ne.2 (by omega)
            rw [if_neg (fun e => hk1 e.1)]
            conv => whnf
            repeat (refine acond_f hb1 ?_; conv => whnf)
            refine Gh.regs [15, 9, 5, 7, 1, 2] (Gh.of ⟨10 - (k + 1), by omega, k + 1, by omega, rfl, rfl, ?_⟩)
            rw [w64 (x := (k : Int) + 1) (by omega) (by omega)]; rfl
        · conv => whnf
          refine acond_f (decide_eq_false h2) ?_
          conv => whnf
          have hfl : F.rtr = false → F.len = ((F.out : Nat) : Int) := fun hr => by
            have := hm.2.2.1
            unfold Fr.out; rw [if_neg (by rw [hr]; decide)]; omega
          have hf0 : F.rtr = true → F.out = 0 := fun hr => by unfold Fr.out; rw [if_pos hr]
          have hAE : ((E.length : Int) == IntKind.i64.wrap ((A.length : Int) + (((S.length : Nat) : Int) - (F.coreL.length : Nat)))) = true := by
            rw [w64 (by omega) (by omega)]; exact beq_iff_eq.2 (by omega)
          have hlo : decide ((E.length : Int) ≤ longL F.out F.ext) = true := decide_eq_true hlongL
          cases hr : F.rtr
          · have hl := hfl hr
            conv => whnf
            refine ACall.frameH [] [] rfl (args' := [.i .i64 F.out, .b F.ext]) (Hc := []) (by show [AV.i .i64 F.len, AV.b F.ext] = _; rw [hl]) rfl hlongest ?_
            rintro r H ⟨rfl, rfl⟩
            refine ⟨.inl rfl, [.c F.cells, .c (ints E), .c (ints A), .c (ints Z)], rfl, ?_⟩
            conv => whnf
            repeat (refine acond_t hlo ?_; conv => whnf)
            refine ⟨by rw [hcA]; omega, ?_⟩
            conv => whnf
            repeat (refine acond_t hlo ?_; conv => whnf)
            have hcnt2 := ACall.args (show ACall Try.prog 19 [.rs (ints (cut A 0 F.coreL.length)) 0 1 (cut A 0 F.coreL.length).length] [] _ by rw [hcutA]; exact hcnt) (VLe.cut (a := 0) (b := F.coreL.length) (o := 0) (n := F.coreL.length) (by omega) (by omega) rfl rfl VLe.nil)
            refine ACall.frameH [] [2] rfl (args' := [.rs (ints A) 0 1 F.coreL.length]) (Hc := []) (by
              show [AV.rs (subs _ (ints _)) 0 1 (Int.toNat (IntKind.i64.wrap ((A.length : Int) - 10)) - 0)] = _
              rw [subs_nums, hcA]; rfl) rfl hcnt2 ?_
            rintro r H ⟨rfl, rfl⟩
            refine ⟨.inr ⟨rfl, rfl⟩, [.c F.cells, .c (ints E), .c (ints A), .c (ints Z)], rfl, ?_⟩
            conv => whnf
            repeat (first | (refine acond_t hlo ?_; conv => whnf) | (refine acond_t hAE ?_; conv => whnf))
            refine ACall.frameH [] [] rfl (args' := []) (Hc := []) rfl rfl awake6_spec ?_
            rintro r H ⟨rfl, rfl⟩
            refine ⟨.inl rfl, [.c F.cells, .c (ints E), .c (ints A), .c (ints Z)], rfl, ?_⟩
            conv => whnf
            repeat (first | (refine acond_t hlo ?_; conv => whnf) | (refine acond_t hAE ?_; conv => whnf))
            exact GhR.sel [] rfl (GhR.of ⟨rfl, rfl⟩)
          · have hl := hf0 hr
            conv => whnf
            refine ACall.frameH [] [] rfl (args' := [.i .i64 F.out, .b F.ext]) (Hc := []) (by show [AV.i .i64 0, AV.b F.ext] = _; rw [hl]; rfl) rfl hlongest ?_
            rintro r H ⟨rfl, rfl⟩
            refine ⟨.inl rfl, [.c F.cells, .c (ints E), .c (ints A), .c (ints Z)], rfl, ?_⟩
            conv => whnf
            repeat (refine acond_t hlo ?_; conv => whnf)
            refine ⟨by rw [hcA]; omega, ?_⟩
            conv => whnf
            repeat (refine acond_t hlo ?_; conv => whnf)
            have hcnt2 := ACall.args (show ACall Try.prog 19 [.rs (ints (cut A 0 F.coreL.length)) 0 1 (cut A 0 F.coreL.length).length] [] _ by rw [hcutA]; exact hcnt) (VLe.cut (a := 0) (b := F.coreL.length) (o := 0) (n := F.coreL.length) (by omega) (by omega) rfl rfl VLe.nil)
            refine ACall.frameH [] [2] rfl (args' := [.rs (ints A) 0 1 F.coreL.length]) (Hc := []) (by
              show [AV.rs (subs _ (ints _)) 0 1 (Int.toNat (IntKind.i64.wrap ((A.length : Int) - 10)) - 0)] = _
              rw [subs_nums, hcA]; rfl) rfl hcnt2 ?_
            rintro r H ⟨rfl, rfl⟩
            refine ⟨.inr ⟨rfl, rfl⟩, [.c F.cells, .c (ints E), .c (ints A), .c (ints Z)], rfl, ?_⟩
            conv => whnf
            repeat (first | (refine acond_t hlo ?_; conv => whnf) | (refine acond_t hAE ?_; conv => whnf))
            refine ACall.frameH [] [] rfl (args' := []) (Hc := []) rfl rfl awake6_spec ?_
            rintro r H ⟨rfl, rfl⟩
            refine ⟨.inl rfl, [.c F.cells, .c (ints E), .c (ints A), .c (ints Z)], rfl, ?_⟩
            conv => whnf
            repeat (first | (refine acond_t hlo ?_; conv => whnf) | (refine acond_t hAE ?_; conv => whnf))
            exact GhR.sel [] rfl (GhR.of ⟨rfl, rfl⟩)
end Go.AK
namespace Go.AK
open Go Go.RowKit Go.Proofs
set_option linter.unusedVariables false
set_option maxRecDepth 100000
theorem okT_ints : ∀ fuel, okT T fuel 22 = true
  | 0 => rfl
  | 1 => rfl
  | n + 2 => rfl
theorem WT_i64 : ∀ {n : Nat} {ys : List AV}, WT T n 3 ys → ∃ m, ys = [.i .i64 m] ∧ (Lit.int .i64 m).wf = true
  | 0, _, h => h.elim
  | n + 1, ys, h => h
theorem WT_ints : ∀ {fuel : Nat} {xs : List AV}, WT T fuel 22 xs → ∃ L : List Int, xs = [.rs (ints L) 0 1 L.length] ∧ L.length ≤ maxLen ∧ ∀ x ∈ L, (Lit.int .i64 x).wf = true
  | 0, _, h => h.elim
  | n + 1, xs, h => by
    obtain ⟨m, cs, hx, hm, hc⟩ := (show ∃ m cs, xs = [AV.rs cs 0 1 m] ∧ m ≤ maxLen ∧ WTs (WT T n) (List.replicate m 3) cs from h)
    obtain ⟨L, hL, hl, hw⟩ := WTs_ints (fun ys => WT_i64) m cs hc
    subst hL
    exact ⟨L, by rw [hx, hl], by omega, hw⟩
theorem okT_frame : ∀ fuel, okT T fuel 26 = true
  | 0 => rfl
  | 1 => rfl
  | 2 => rfl
  | n + 3 => rfl
theorem okT_frames : ∀ fuel, okT T fuel 36 = true
  | 0 => rfl
  | 1 => rfl
  | 2 => rfl
  | 3 => rfl
  | n + 4 => rfl
theorem i64_in {n : Int} (h : (Lit.int .i64 n).wf = true) : -9223372036854775808 ≤ n ∧ n ≤ 9223372036854775807 := by
  have := Bool.and_eq_true_iff.1 (show (decide (IntKind.min .i64 ≤ n) && decide (n ≤ IntKind.max .i64)) = true from h)
  exact ⟨of_decide_eq_true this.1, of_decide_eq_true this.2⟩
theorem u8_in {n : Int} (h : (Lit.int .u8 n).wf = true) : 0 ≤ n ∧ n < 256 := by
  have := Bool.and_eq_true_iff.1 (show (decide (IntKind.min .u8 ≤ n) && decide (n ≤ IntKind.max .u8)) = true from h)
  have h1 : (0 : Int) ≤ n := of_decide_eq_true this.1
  have h2 : n ≤ (255 : Int) := of_decide_eq_true this.2
  omega
theorem WT_frame : ∀ {fuel : Nat} {xs : List AV}, WT T fuel 26 xs → ∃ F : Fr, xs = F.cells ∧ F.ok
  | 0, _, h => h.elim
  | 1, xs, h => by
    obtain ⟨ys, zs, _, h1, _⟩ := (show WTs (WT T 0) [3, 4, 4, 3, 24] xs from h)
    exact h1.elim
  | 2, xs, h => by
    obtain ⟨y0, z0, rfl, h0, h⟩ := (show WTs (WT T 1) [3, 4, 4, 3, 24] xs from h)
    obtain ⟨y1, z1, rfl, h1, h⟩ := h
    obtain ⟨y2, z2, rfl, h2, h⟩ := h
    obtain ⟨y3, z3, rfl, h3, h⟩ := h
    obtain ⟨y4, z4, rfl, h4, h⟩ := h
    obtain ⟨a, b, _, h5, _⟩ := (show WTs (WT T 0) (List.replicate 8 5) y4 from h4)
    exact h5.elim
  | n + 3, xs, h => by
    obtain ⟨y0, z0, rfl, h0, h⟩ := (show WTs (WT T (n + 2)) [3, 4, 4, 3, 24] xs from h)
    obtain ⟨y1, z1, rfl, h1, h⟩ := h
    obtain ⟨y2, z2, rfl, h2, h⟩ := h
    obtain ⟨y3, z3, rfl, h3, h⟩ := h
    obtain ⟨y4, z4, rfl, h4, h⟩ := h
    obtain rfl := (show z4 = [] from h)
    obtain ⟨id, rfl, w0⟩ := (show ∃ m, y0 = [.i .i64 m] ∧ (Lit.int .i64 m).wf = true from h0)
    obtain ⟨ext, rfl⟩ := (show ∃ b, y1 = [.b b] from h1)
    obtain ⟨rtr, rfl⟩ := (show ∃ b, y2 = [.b b] from h2)
    obtain ⟨len, rfl, w3⟩ := (show ∃ m, y3 = [.i .i64 m] ∧ (Lit.int .i64 m).wf = true from h3)
    obtain ⟨L, hL, hl, hw⟩ := WTs_ints (T := T) (n := n + 1) (e := 5) (k := .u8) (fun ys hy => (show ∃ m, ys = [.i .u8 m] ∧ (Lit.int .u8 m).wf = true from hy)) 8 y4 (show WTs (WT T (n + 1)) (List.replicate 8 5) y4 from h4)
    subst hL
    obtain ⟨b0, b1, b2, b3, b4, b5, b6, b7, rfl⟩ : ∃ b0 b1 b2 b3 b4 b5 b6 b7, L = [b0, b1, b2, b3, b4, b5, b6, b7] := by
      match L, hl with
      | [a, b, c, d, e, f, g, h], _ => exact ⟨a, b, c, d, e, f, g, h, rfl⟩
    exact ⟨⟨id, ext, rtr, len, b0, b1, b2, b3, b4, b5, b6, b7⟩, rfl, i64_in w0, i64_in w3, fun x hx => u8_in (hw x hx)⟩
theorem WTs_frames {n : Nat} : ∀ (m : Nat) (cs : List AV), WTs (WT T n) (List.replicate m 26) cs → ∃ L : List Fr, cs = frs L ∧ L.length = m ∧ ∀ F ∈ L, F.ok
  | 0, cs, hc => ⟨[], (show cs = [] from hc), rfl, fun x hx => by cases hx⟩
  | m + 1, cs, hc => by
    rw [List.replicate_succ] at hc
    obtain ⟨ys, zs, rfl, h1, h2⟩ := hc
    obtain ⟨F, rfl, hF⟩ := WT_frame h1
    obtain ⟨L, rfl, hl, hL⟩ := WTs_frames m zs h2
    refine ⟨F :: L, rfl, by simp [hl], fun y hy => ?_⟩
    rcases List.mem_cons.1 hy with rfl | hy
    · exact hF
    · exact hL y hy
theorem WT_frames : ∀ {fuel : Nat} {xs : List AV}, WT T fuel 36 xs → ∃ l : List Fr, xs = [.rs (frs l) 0 12 l.length] ∧ l.length ≤ maxLen ∧ ∀ F ∈ l, F.ok
  | 0, _, h => h.elim
  | n + 1, xs, h => by
    obtain ⟨m, cs, hx, hm, hc⟩ := (show ∃ m cs, xs = [AV.rs cs 0 12 m] ∧ m ≤ maxLen ∧ WTs (WT T n) (List.replicate m 26) cs from h)
    obtain ⟨L, hL, hl, hw⟩ := WTs_frames m cs hc
    subst hL
    exact ⟨L, by rw [hx, hl], by omega, hw⟩
end Go.AK
