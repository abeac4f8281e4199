/- Texts SCDec, SCPlS, SCEncP, SCAdd, SCRep, SCBits, SCEnc, SCFrP, SCLawP, SFlat, SCAwake, SCRef: an evaluator of the model's code, proved sound, and what the program's functions do, for all inputs. -/
import Derived.Test.YtmhkinlckjjpoaaMS3
namespace Go.AK
open Go Go.RowKit Go.Proofs
set_option linter.unusedVariables false
set_option maxRecDepth 100000
theorem done_spec (raw : List Int) (last run : Int) (c : Nat) (hl : isLv raw) (hL : raw.length < 1000000) (h0 : 0 ≤ kn raw) : ACall Try.prog 22 [.p (some (0, 0))] [rdC (.sl (some (1, 0)) 1 raw.length c) last run, .c (ints raw)]
    fun r H => r = .ret (.b (decide (kn raw = 9))) ∧ H = [rdC (.sl (some (1, 0)) 1 raw.length c) last run, .c (ints raw)] := by
  refine ACall.enter tok false Try.func22 rfl rfl rfl (AW_sound (ip := false) tok _ _ _ _ ?_)
  conv => whnf
  refine ACall.frameH [] [1] rfl (args' := [.rs (ints raw) 0 1 raw.length]) (Hc := []) (by show [AV.rs (subs _ (ints raw)) _ _ _] = _; rw [subs_nums]) rfl (nextK_spec raw hl hL h0) ?_
  rintro r H ⟨⟨i, rfl⟩, rfl⟩
  refine ⟨.inr ⟨rfl, rfl⟩, _, rfl, ?_⟩
  conv => whnf
  refine ⟨?_, rfl⟩
  rw [show (kn raw == 9) = decide (kn raw = 9) from rfl]
set_option maxHeartbeats 8000000 in
theorem decode_spec (L : List Int) (hL : L.length < 1000000) : ACall Try.prog 10 [.rs (ints L) 0 1 L.length] [] fun r H => r = .ret (.tup [(dec L).1.av, .i .i64 (dec L).2.1, .i .i64 (dec L).2.2]) ∧ H = [] := by
  refine ACall.gh ?_
  refine ACall.enter tok false Try.func10 rfl rfl rfl (AW_sound (ip := false) tok _ _ _ _ ?_)
  have hle := lvP_le L
  have fin : ∀ (F : Fr) (n e : Int) (H : Heap), dec L = (F, n, e) → GhR 0 (fun r H => r = ARes.ret (.tup [(dec L).1.av, .i .i64 (dec L).2.1, .i .i64 (dec L).2.2]) ∧ H = []) (.ret (.tup [F.av, .i .i64 n, .i .i64 e])) H := by
    rintro F n e H hd
    exact GhR.sel [] rfl (GhR.of ⟨by rw [hd]; rfl, rfl⟩)
  conv => whnf
  refine ACall.frameH [] [] rfl (args' := [.rs (ints L) 0 1 L.length]) (Hc := []) (by show [AV.rs (subs _ (ints L)) _ _ _] = _; rw [subs_nums]) rfl (chk_spec L (by omega)) ?_
  rintro r H ⟨v, hv, rfl, rfl⟩
  refine ⟨.inl rfl, _, rfl, ?_⟩
  have hcut := hv.cut
  conv => whnf
  obtain ⟨fe, hfe⟩ : ∃ fe : Int, fe = if (lvP L).length < L.length then 10 else 13 := ⟨_, rfl⟩
  have hd0 : dec L = decG fe (lvP L) 0 [] 0 0 := by rw [hfe]; rfl
  by_cases hv0 : v ≥ 0
  · rw [if_pos hv0] at hcut
    refine acond_t (decide_eq_true hv0) ?_
    rw [hcut]
    conv => whnf
    refine ⟨by omega, ?_⟩
    conv => whnf
    refine ALoop.ind (ip := false) tok (fun m r H => ∃ (i : Nat) (raw : List Int) (last run : Int), i ≤ (lvP L).length ∧ m = (lvP L).length - i ∧ decG fe ((lvP L).drop i) i raw last run = dec L ∧ RdOk raw run ∧ raw.length ≤ i ∧
      ((raw = [] ∧ last = 0 ∧ run = 0 ∧ H = [.c Fr0.cells, rdC (.sl none 0 0 0) 0 0]) ∨ (raw ≠ [] ∧ ∃ c, raw.length ≤ c ∧ H = [.c Fr0.cells, rdC (.sl (some (2, 0)) 1 raw.length c) last run, .c (ints raw)])) ∧
      r = [(26, .i .i64 i), (25, .i .i64 (lvP L).length), (24, .rs (ints L) 0 1 (lvP L).length), (6, .fn (.func 20) [.p (some (1, 0))] []), (5, .p (some (1, 0))), (2, .p (some (0, 0))), (7, .i .i64 (lvP L).length), (0, .rs (ints L) 0 1 L.length)]) (lvP L).length ?_ ?_
    · refine Gh.regs [26, 25, 24, 6, 5, 2, 7, 0] (Gh.of ⟨0, [], 0, 0, by omega, rfl, hd0.symm, ⟨isLv_nil, by rw [kn_nil]; omega, by rw [kn_nil]; omega, by omega, rfl, fun _ => rfl⟩, by simp, .inl ⟨rfl, rfl, rfl, rfl⟩, ?_⟩)
      try rfl
    · rintro m r H ⟨i, raw, last, run, hi, rfl, hdec, hok, hri, hst, rfl⟩
      have hrn := hok.rn
      by_cases h : (i : Int) < (lvP L).length
      · have hil : i < (lvP L).length := by omega
        have hiL : i < L.length := by omega
        have hget : L[i]? = some (lvP L)[i] := by
          rw [← List.getElem?_eq_getElem hil]
          conv => rhs; rw [← lvP_take L]
          rw [List.getElem?_take_of_lt hil]
        have hx := lvP_lv L _ (List.getElem_mem hil)
        rw [List.drop_eq_getElem_cons hil] at hdec
        generalize hX : (lvP L)[i] = x at hget hx hdec
        have hnx : decG fe (x :: (lvP L).drop (i + 1)) i raw last run = (if (stp raw last run x).1 ≠ 0 then (Fr0, (i : Int), (stp raw last run x).1)
          else if kn (stp raw last run x).2.1 = 9 then (frL (stp raw last run x).2.1, (i : Int) + 1, 0)
          else decG fe ((lvP L).drop (i + 1)) ((i : Int) + 1) (stp raw last run x).2.1 (stp raw last run x).2.2.1 (stp raw last run x).2.2.2) := rfl
        have hstp := stp_ok (last := last) hok hx
        generalize hS : stp raw last run x = S at hnx hstp
        obtain ⟨e, R, l, n⟩ := S
        dsimp only at hnx hstp
        rcases hst with ⟨rfl, rfl, rfl, rfl⟩ | ⟨hne, c, hc, rfl⟩
        · have htk : ACall Try.prog 20 [.p (some (0, 0)), .i .i64 x] [rdC (.sl none 0 0 0) 0 0] fun r H => r = .ret (.i .i64 e) ∧
              ((e ≠ 0 ∧ ∃ l n, H = [rdC (.sl none 0 0 0) l n]) ∨ (e = 0 ∧ ∃ c, R.length ≤ c ∧ H = [rdC (.sl (some (1, 0)) 1 R.length c) l n, .c (ints R)])) := by
            refine ACall.mono (take_nil x hx) ?_
            rw [hS]
            rintro r H ⟨rfl, ⟨hx1, l2, n2, rfl⟩ | ⟨hx0, c2, hc2, rfl⟩⟩
            · refine ⟨rfl, .inl ⟨?_, l2, n2, rfl⟩⟩
              subst hx1
              have : (11 : Int) = e := congrArg Prod.fst hS
              omega
            · have hs : (0, [0], 0, 1) = (e, R, l, n) := by rw [← hS, hx0]; rfl
              cases hs
              exact ⟨rfl, .inr ⟨rfl, c2, hc2, rfl⟩⟩
          conv => whnf
          refine acond_t (decide_eq_true h) ?_
          conv => whnf
          refine ⟨⟨by omega, by omega⟩, ?_⟩
          conv => whnf
          refine aget_num (i := i) (by omega) hget ?_
          conv => whnf
          refine ACall.frameH [1] [] rfl (args' := [.p (some (0, 0)), .i .i64 x]) (Hc := [rdC (.sl none 0 0 0) 0 0]) rfl rfl htk ?_
          rintro r H ⟨rfl, ⟨he, l2, n2, rfl⟩ | ⟨hs0, c2, hc2, rfl⟩⟩
          · refine ⟨.inl rfl, [.c Fr0.cells, rdC (.sl none 0 0 0) l2 n2], rfl, ?_⟩
            conv => whnf
            refine acond_t (bne_iff_ne.2 he) ?_
            conv => whnf
            refine ⟨by show 0 + 12 ≤ 12; omega, ?_⟩
            conv => whnf
            refine fin Fr0 (i : Int) e _ ?_
            rw [← hdec, hnx, if_pos he]
          · obtain ⟨o1, o2, o3, o4, o5, o6⟩ := hstp hs0
            refine ⟨.inl rfl, [.c Fr0.cells, rdC (.sl (some (2, 0)) 1 R.length c2) l n, .c (ints R)], (by show [_, _, Blk.c (subs _ (ints _))] = _; rw [subs_nums]; rfl), ?_⟩
            conv => whnf
            refine acond_f (bne_eq_false_iff_eq.2 hs0) ?_
            conv => whnf
            refine ACall.frameH [1, 2] [] rfl (args' := [.p (some (0, 0))]) (Hc := [rdC (.sl (some (1, 0)) 1 R.length c2) l n, .c (ints R)]) rfl (by show [_, Blk.c (subs _ (ints _))] = _; rw [subs_nums]; rfl) (done_spec R l n c2 o1 (by omega) o2) ?_
            rintro r H ⟨rfl, rfl⟩
            refine ⟨.inl rfl, [.c Fr0.cells, rdC (.sl (some (2, 0)) 1 R.length c2) l n, .c (ints R)], (by show [_, _, Blk.c (subs _ (ints _))] = _; rw [subs_nums]; rfl), ?_⟩
            conv => whnf
            by_cases h9 : kn R = 9
            · obtain ⟨hw, hlen⟩ := kn_done h9
              refine acond_t (decide_eq_true h9) ?_
              conv => whnf
              refine ACall.frameH [] [2] rfl (args' := [.rs (ints R) 0 1 R.length]) (Hc := []) (by show [AV.rs (subs _ (ints _)) _ _ _] = _; rw [subs_nums]) rfl (frame_spec R o1 (by omega) hw (by omega) o4) ?_
              rintro r H ⟨rfl, rfl⟩
              refine ⟨.inr ⟨rfl, rfl⟩, _, rfl, ?_⟩
              conv => whnf
              refine ⟨by show 0 + 12 ≤ 12; omega, ?_⟩
              conv => whnf
              refine ⟨by show 0 + 12 ≤ 12; omega, ?_⟩
              conv => whnf
              rw [w64 (x := (i : Int) + 1) (by omega) (by omega)]
              refine fin (frL R) ((i : Int) + 1) 0 _ ?_
              rw [← hdec, hnx, if_neg (by rw [hs0]; exact fun h => h rfl), if_pos h9]
            · refine acond_f (decide_eq_false h9) ?_
              conv => whnf
              refine Gh.regs [26, 25, 24, 6, 5, 2, 7, 0] (Gh.sel [0, 1, 2] rfl (Gh.of ⟨(lvP L).length - (i + 1), by omega, i + 1, R, l, n, by omega, rfl, ?_, ⟨o1, o2, h9, o3, o4, fun e => absurd e o6⟩, by omega, .inr ⟨o6, c2, hc2, (by show [_, _, Blk.c (subs _ (ints _))] = _; rw [subs_nums]; rfl)⟩, ?_⟩))
              · rw [← hdec, hnx, if_neg (by rw [hs0]; exact fun h => h rfl), if_neg h9]; rfl
              · refine keep_eq (show keepR _ _ = [_, _, _, _, _, _, _, _] from rfl) ?_
                simp only [subG, sub, subs_nums]
                rw [w64 (by omega) (by omega)]; rfl
        · have htk := take_some raw last run x c hc hok.lv hne (by omega) hok.kn0 hx hok.rn
          unfold TakeK at htk
          rw [hS] at htk
          dsimp only at htk
          conv => whnf
          refine acond_t (decide_eq_true h) ?_
          conv => whnf
          refine ⟨⟨by omega, by omega⟩, ?_⟩
          conv => whnf
          refine aget_num (i := i) (by omega) hget ?_
          conv => whnf
          refine ACall.frameH [1, 2] [] rfl (args' := [.p (some (0, 0)), .i .i64 x]) (Hc := [rdC (.sl (some (1, 0)) 1 raw.length c) last run, .c (ints raw)]) rfl (by show [_, Blk.c (subs _ (ints _))] = _; rw [subs_nums]; rfl) htk ?_
          rintro r H ⟨rfl, ⟨he, l2, n2, c2, hc2, rfl⟩ | ⟨hs0, ⟨hr5, c2, hc2, rfl⟩ | ⟨hr5, c2, hc2, rfl⟩⟩⟩
          · refine ⟨.inl rfl, [.c Fr0.cells, rdC (.sl (some (2, 0)) 1 raw.length c2) l2 n2, .c (ints raw)], (by show [_, _, Blk.c (subs _ (ints _))] = _; rw [subs_nums]; rfl), ?_⟩
            conv => whnf
            refine acond_t (bne_iff_ne.2 he) ?_
            conv => whnf
            refine ⟨by show 0 + 12 ≤ 12; omega, ?_⟩
            conv => whnf
            refine fin Fr0 (i : Int) e _ ?_
            rw [← hdec, hnx, if_pos he]
          · obtain ⟨o1, o2, o3, o4, o5, o6⟩ := hstp hs0
            refine ⟨.inl rfl, [.c Fr0.cells, rdC (.sl (some (2, 0)) 1 R.length c2) l n, .c (ints R)], (by show [_, _, Blk.c (subs _ (ints _))] = _; rw [subs_nums]; rfl), ?_⟩
            conv => whnf
            refine acond_f (bne_eq_false_iff_eq.2 hs0) ?_
            conv => whnf
            refine ACall.frameH [1, 2] [] rfl (args' := [.p (some (0, 0))]) (Hc := [rdC (.sl (some (1, 0)) 1 R.length c2) l n, .c (ints R)]) rfl (by show [_, Blk.c (subs _ (ints _))] = _; rw [subs_nums]; rfl) (done_spec R l n c2 o1 (by omega) o2) ?_
            rintro r H ⟨rfl, rfl⟩
            refine ⟨.inl rfl, [.c Fr0.cells, rdC (.sl (some (2, 0)) 1 R.length c2) l n, .c (ints R)], (by show [_, _, Blk.c (subs _ (ints _))] = _; rw [subs_nums]; rfl), ?_⟩
            conv => whnf
            by_cases h9 : kn R = 9
            · obtain ⟨hw, hlen⟩ := kn_done h9
              refine acond_t (decide_eq_true h9) ?_
              conv => whnf
              refine ACall.frameH [] [2] rfl (args' := [.rs (ints R) 0 1 R.length]) (Hc := []) (by show [AV.rs (subs _ (ints _)) _ _ _] = _; rw [subs_nums]) rfl (frame_spec R o1 (by omega) hw (by omega) o4) ?_
              rintro r H ⟨rfl, rfl⟩
              refine ⟨.inr ⟨rfl, rfl⟩, _, rfl, ?_⟩
              conv => whnf
              refine ⟨by show 0 + 12 ≤ 12; omega, ?_⟩
              conv => whnf
              refine ⟨by show 0 + 12 ≤ 12; omega, ?_⟩
              conv => whnf
              rw [w64 (x := (i : Int) + 1) (by omega) (by omega)]
              refine fin (frL R) ((i : Int) + 1) 0 _ ?_
              rw [← hdec, hnx, if_neg (by rw [hs0]; exact fun h => h rfl), if_pos h9]
            · refine acond_f (decide_eq_false h9) ?_
              conv => whnf
              refine Gh.regs [26, 25, 24, 6, 5, 2, 7, 0] (Gh.sel [0, 1, 2] rfl (Gh.of ⟨(lvP L).length - (i + 1), by omega, i + 1, R, l, n, by omega, rfl, ?_, ⟨o1, o2, h9, o3, o4, fun e => absurd e o6⟩, by omega, .inr ⟨o6, c2, hc2, (by show [_, _, Blk.c (subs _ (ints _))] = _; rw [subs_nums]; rfl)⟩, ?_⟩))
              · rw [← hdec, hnx, if_neg (by rw [hs0]; exact fun h => h rfl), if_neg h9]; rfl
              · refine keep_eq (show keepR _ _ = [_, _, _, _, _, _, _, _] from rfl) ?_
                simp only [subG, sub, subs_nums]
                rw [w64 (by omega) (by omega)]; rfl
          · obtain ⟨o1, o2, o3, o4, o5, o6⟩ := hstp hs0
            refine ⟨.inl rfl, [.c Fr0.cells, rdC (.sl (some (3, 0)) 1 R.length c2) l n, .dead, .c (ints R)], (by show [_, _, _, Blk.c (subs _ (ints _))] = _; rw [subs_nums]; rfl), ?_⟩
            conv => whnf
            refine acond_f (bne_eq_false_iff_eq.2 hs0) ?_
            conv => whnf
            refine ACall.frameH [1, 3] [] rfl (args' := [.p (some (0, 0))]) (Hc := [rdC (.sl (some (1, 0)) 1 R.length c2) l n, .c (ints R)]) rfl (by show [_, Blk.c (subs _ (ints _))] = _; rw [subs_nums]; rfl) (done_spec R l n c2 o1 (by omega) o2) ?_
            rintro r H ⟨rfl, rfl⟩
            refine ⟨.inl rfl, [.c Fr0.cells, rdC (.sl (some (3, 0)) 1 R.length c2) l n, .dead, .c (ints R)], (by show [_, _, _, Blk.c (subs _ (ints _))] = _; rw [subs_nums]; rfl), ?_⟩
            conv => whnf
            by_cases h9 : kn R = 9
            · obtain ⟨hw, hlen⟩ := kn_done h9
              refine acond_t (decide_eq_true h9) ?_
              conv => whnf
              refine ACall.frameH [] [3] rfl (args' := [.rs (ints R) 0 1 R.length]) (Hc := []) (by show [AV.rs (subs _ (ints _)) _ _ _] = _; rw [subs_nums]) rfl (frame_spec R o1 (by omega) hw (by omega) o4) ?_
              rintro r H ⟨rfl, rfl⟩
              refine ⟨.inr ⟨rfl, rfl⟩, _, rfl, ?_⟩
              conv => whnf
              refine ⟨by show 0 + 12 ≤ 12; omega, ?_⟩
              conv => whnf
              refine ⟨by show 0 + 12 ≤ 12; omega, ?_⟩
              conv => whnf
              rw [w64 (x := (i : Int) + 1) (by omega) (by omega)]
              refine fin (frL R) ((i : Int) + 1) 0 _ ?_
              rw [← hdec, hnx, if_neg (by rw [hs0]; exact fun h => h rfl), if_pos h9]
            · refine acond_f (decide_eq_false h9) ?_
              conv => whnf
              refine Gh.regs [26, 25, 24, 6, 5, 2, 7, 0] (Gh.sel [0, 1, 3] rfl (Gh.of ⟨(lvP L).length - (i + 1), by omega, i + 1, R, l, n, by omega, rfl, ?_, ⟨o1, o2, h9, o3, o4, fun e => absurd e o6⟩, by omega, .inr ⟨o6, c2, hc2, (by show [_, _, Blk.c (subs _ (ints _))] = _; rw [subs_nums]; rfl)⟩, ?_⟩))
              · rw [← hdec, hnx, if_neg (by rw [hs0]; exact fun h => h rfl), if_neg h9]; rfl
              · refine keep_eq (show keepR _ _ = [_, _, _, _, _, _, _, _] from rfl) ?_
                simp only [subG, sub, subs_nums]
                rw [w64 (by omega) (by omega)]; rfl
      · have hie : i = (lvP L).length := by omega
        have hd2 : dec L = (Fr0, ((lvP L).length : Int), fe) := by
          rw [← hdec, hie, List.drop_length]; rfl
        rcases hst with ⟨rfl, rfl, rfl, rfl⟩ | ⟨hne, c, hc, rfl⟩
        all_goals
          conv => whnf
          refine acond_f (decide_eq_false h) ?_
          conv => whnf
          by_cases hll : (lvP L).length < L.length
          · rw [hfe, if_pos hll] at hd2
            refine acond_t (decide_eq_true (by omega)) ?_
            conv => whnf
            refine ⟨by show 0 + 12 ≤ 12; omega, ?_⟩
            conv => whnf
            exact fin Fr0 _ 10 _ hd2
          · rw [hfe, if_neg hll] at hd2
            refine acond_f (decide_eq_false (by omega)) ?_
            conv => whnf
            refine ⟨by show 0 + 12 ≤ 12; omega, ?_⟩
            conv => whnf
            exact fin Fr0 _ 13 _ hd2
  · rw [if_neg hv0] at hcut
    have hLl : (lvP L).length = L.length := by omega
    refine acond_f (decide_eq_false hv0) ?_
    conv => whnf
    refine ⟨by omega, ?_⟩
    conv => whnf
    refine ALoop.ind (ip := false) tok (fun m r H => ∃ (i : Nat) (raw : List Int) (last run : Int), i ≤ (lvP L).length ∧ m = (lvP L).length - i ∧ decG fe ((lvP L).drop i) i raw last run = dec L ∧ RdOk raw run ∧ raw.length ≤ i ∧
      ((raw = [] ∧ last = 0 ∧ run = 0 ∧ H = [.c Fr0.cells, rdC (.sl none 0 0 0) 0 0]) ∨ (raw ≠ [] ∧ ∃ c, raw.length ≤ c ∧ H = [.c Fr0.cells, rdC (.sl (some (2, 0)) 1 raw.length c) last run, .c (ints raw)])) ∧
      r = [(26, .i .i64 i), (25, .i .i64 (lvP L).length), (24, .rs (ints L) 0 1 (lvP L).length), (6, .fn (.func 20) [.p (some (1, 0))] []), (5, .p (some (1, 0))), (2, .p (some (0, 0))), (7, .i .i64 (lvP L).length), (0, .rs (ints L) 0 1 L.length)]) (lvP L).length ?_ ?_
    · refine Gh.regs [26, 25, 24, 6, 5, 2, 7, 0] (Gh.of ⟨0, [], 0, 0, by omega, rfl, hd0.symm, ⟨isLv_nil, by rw [kn_nil]; omega, by rw [kn_nil]; omega, by omega, rfl, fun _ => rfl⟩, by simp, .inl ⟨rfl, rfl, rfl, rfl⟩, ?_⟩)
      rw [hLl]; try rfl
    · rintro m r H ⟨i, raw, last, run, hi, rfl, hdec, hok, hri, hst, rfl⟩
      have hrn := hok.rn
      by_cases h : (i : Int) < (lvP L).length
      · have hil : i < (lvP L).length := by omega
        have hiL : i < L.length := by omega
        have hget : L[i]? = some (lvP L)[i] := by
          rw [← List.getElem?_eq_getElem hil]
          conv => rhs; rw [← lvP_take L]
          rw [List.getElem?_take_of_lt hil]
        have hx := lvP_lv L _ (List.getElem_mem hil)
        rw [List.drop_eq_getElem_cons hil] at hdec
        generalize hX : (lvP L)[i] = x at hget hx hdec
        have hnx : decG fe (x :: (lvP L).drop (i + 1)) i raw last run = (if (stp raw last run x).1 ≠ 0 then (Fr0, (i : Int), (stp raw last run x).1)
          else if kn (stp raw last run x).2.1 = 9 then (frL (stp raw last run x).2.1, (i : Int) + 1, 0)
          else decG fe ((lvP L).drop (i + 1)) ((i : Int) + 1) (stp raw last run x).2.1 (stp raw last run x).2.2.1 (stp raw last run x).2.2.2) := rfl
        have hstp := stp_ok (last := last) hok hx
        generalize hS : stp raw last run x = S at hnx hstp
        obtain ⟨e, R, l, n⟩ := S
        dsimp only at hnx hstp
        rcases hst with ⟨rfl, rfl, rfl, rfl⟩ | ⟨hne, c, hc, rfl⟩
        · have htk : ACall Try.prog 20 [.p (some (0, 0)), .i .i64 x] [rdC (.sl none 0 0 0) 0 0] fun r H => r = .ret (.i .i64 e) ∧
              ((e ≠ 0 ∧ ∃ l n, H = [rdC (.sl none 0 0 0) l n]) ∨ (e = 0 ∧ ∃ c, R.length ≤ c ∧ H = [rdC (.sl (some (1, 0)) 1 R.length c) l n, .c (ints R)])) := by
            refine ACall.mono (take_nil x hx) ?_
            rw [hS]
            rintro r H ⟨rfl, ⟨hx1, l2, n2, rfl⟩ | ⟨hx0, c2, hc2, rfl⟩⟩
            · refine ⟨rfl, .inl ⟨?_, l2, n2, rfl⟩⟩
              subst hx1
              have : (11 : Int) = e := congrArg Prod.fst hS
              omega
            · have hs : (0, [0], 0, 1) = (e, R, l, n) := by rw [← hS, hx0]; rfl
              cases hs
              exact ⟨rfl, .inr ⟨rfl, c2, hc2, rfl⟩⟩
          conv => whnf
          refine acond_t (decide_eq_true h) ?_
          conv => whnf
          refine ⟨⟨by omega, by omega⟩, ?_⟩
          conv => whnf
          refine aget_num (i := i) (by omega) hget ?_
          conv => whnf
          refine ACall.frameH [1] [] rfl (args' := [.p (some (0, 0)), .i .i64 x]) (Hc := [rdC (.sl none 0 0 0) 0 0]) rfl rfl htk ?_
          rintro r H ⟨rfl, ⟨he, l2, n2, rfl⟩ | ⟨hs0, c2, hc2, rfl⟩⟩
          · refine ⟨.inl rfl, [.c Fr0.cells, rdC (.sl none 0 0 0) l2 n2], rfl, ?_⟩
            conv => whnf
            refine acond_t (bne_iff_ne.2 he) ?_
            conv => whnf
            refine ⟨by show 0 + 12 ≤ 12; omega, ?_⟩
            conv => whnf
            refine fin Fr0 (i : Int) e _ ?_
            rw [← hdec, hnx, if_pos he]
          · obtain ⟨o1, o2, o3, o4, o5, o6⟩ := hstp hs0
            refine ⟨.inl rfl, [.c Fr0.cells, rdC (.sl (some (2, 0)) 1 R.length c2) l n, .c (ints R)], (by show [_, _, Blk.c (subs _ (ints _))] = _; rw [subs_nums]; rfl), ?_⟩
            conv => whnf
            refine acond_f (bne_eq_false_iff_eq.2 hs0) ?_
            conv => whnf
            refine ACall.frameH [1, 2] [] rfl (args' := [.p (some (0, 0))]) (Hc := [rdC (.sl (some (1, 0)) 1 R.length c2) l n, .c (ints R)]) rfl (by show [_, Blk.c (subs _ (ints _))] = _; rw [subs_nums]; rfl) (done_spec R l n c2 o1 (by omega) o2) ?_
            rintro r H ⟨rfl, rfl⟩
            refine ⟨.inl rfl, [.c Fr0.cells, rdC (.sl (some (2, 0)) 1 R.length c2) l n, .c (ints R)], (by show [_, _, Blk.c (subs _ (ints _))] = _; rw [subs_nums]; rfl), ?_⟩
            conv => whnf
            by_cases h9 : kn R = 9
            · obtain ⟨hw, hlen⟩ := kn_done h9
              refine acond_t (decide_eq_true h9) ?_
              conv => whnf
              refine ACall.frameH [] [2] rfl (args' := [.rs (ints R) 0 1 R.length]) (Hc := []) (by show [AV.rs (subs _ (ints _)) _ _ _] = _; rw [subs_nums]) rfl (frame_spec R o1 (by omega) hw (by omega) o4) ?_
              rintro r H ⟨rfl, rfl⟩
              refine ⟨.inr ⟨rfl, rfl⟩, _, rfl, ?_⟩
              conv => whnf
              refine ⟨by show 0 + 12 ≤ 12; omega, ?_⟩
              conv => whnf
              refine ⟨by show 0 + 12 ≤ 12; omega, ?_⟩
              conv => whnf
              rw [w64 (x := (i : Int) + 1) (by omega) (by omega)]
              refine fin (frL R) ((i : Int) + 1) 0 _ ?_
              rw [← hdec, hnx, if_neg (by rw [hs0]; exact fun h => h rfl), if_pos h9]
            · refine acond_f (decide_eq_false h9) ?_
              conv => whnf
              refine Gh.regs [26, 25, 24, 6, 5, 2, 7, 0] (Gh.sel [0, 1, 2] rfl (Gh.of ⟨(lvP L).length - (i + 1), by omega, i + 1, R, l, n, by omega, rfl, ?_, ⟨o1, o2, h9, o3, o4, fun e => absurd e o6⟩, by omega, .inr ⟨o6, c2, hc2, (by show [_, _, Blk.c (subs _ (ints _))] = _; rw [subs_nums]; rfl)⟩, ?_⟩))
              · rw [← hdec, hnx, if_neg (by rw [hs0]; exact fun h => h rfl), if_neg h9]; rfl
              · refine keep_eq (show keepR _ _ = [_, _, _, _, _, _, _, _] from rfl) ?_
                simp only [subG, sub, subs_nums]
                rw [w64 (by omega) (by omega)]; rfl
        · have htk := take_some raw last run x c hc hok.lv hne (by omega) hok.kn0 hx hok.rn
          unfold TakeK at htk
          rw [hS] at htk
          dsimp only at htk
          conv => whnf
          refine acond_t (decide_eq_true h) ?_
          conv => whnf
          refine ⟨⟨by omega, by omega⟩, ?_⟩
          conv => whnf
          refine aget_num (i := i) (by omega) hget ?_
          conv => whnf
          refine ACall.frameH [1, 2] [] rfl (args' := [.p (some (0, 0)), .i .i64 x]) (Hc := [rdC (.sl (some (1, 0)) 1 raw.length c) last run, .c (ints raw)]) rfl (by show [_, Blk.c (subs _ (ints _))] = _; rw [subs_nums]; rfl) htk ?_
          rintro r H ⟨rfl, ⟨he, l2, n2, c2, hc2, rfl⟩ | ⟨hs0, ⟨hr5, c2, hc2, rfl⟩ | ⟨hr5, c2, hc2, rfl⟩⟩⟩
          · refine ⟨.inl rfl, [.c Fr0.cells, rdC (.sl (some (2, 0)) 1 raw.length c2) l2 n2, .c (ints raw)], (by show [_, _, Blk.c (subs _ (ints _))] = _; rw [subs_nums]; rfl), ?_⟩
            conv => whnf
            refine acond_t (bne_iff_ne.2 he) ?_
            conv => whnf
            refine ⟨by show 0 + 12 ≤ 12; omega, ?_⟩
            conv => whnf
            refine fin Fr0 (i : Int) e _ ?_
            rw [← hdec, hnx, if_pos he]
          · obtain ⟨o1, o2, o3, o4, o5, o6⟩ := hstp hs0
            refine ⟨.inl rfl, [.c Fr0.cells, rdC (.sl (some (2, 0)) 1 R.length c2) l n, .c (ints R)], (by show [_, _, Blk.c (subs _ (ints _))] = _; rw [subs_nums]; rfl), ?_⟩
            conv => whnf
            refine acond_f (bne_eq_false_iff_eq.2 hs0) ?_
            conv => whnf
            refine ACall.frameH [1, 2] [] rfl (args' := [.p (some (0, 0))]) (Hc := [rdC (.sl (some (1, 0)) 1 R.length c2) l n, .c (ints R)]) rfl (by show [_, Blk.c (subs _ (ints _))] = _; rw [subs_nums]; rfl) (done_spec R l n c2 o1 (by omega) o2) ?_
            rintro r H ⟨rfl, rfl⟩
            refine ⟨.inl rfl, [.c Fr0.cells, rdC (.sl (some (2, 0)) 1 R.length c2) l n, .c (ints R)], (by show [_, _, Blk.c (subs _ (ints _))] = _; rw [subs_nums]; rfl), ?_⟩
            conv => whnf
            by_cases h9 : kn R = 9
            · obtain ⟨hw, hlen⟩ := kn_done h9
              refine acond_t (decide_eq_true h9) ?_
              conv => whnf
              refine ACall.frameH [] [2] rfl (args' := [.rs (ints R) 0 1 R.length]) (Hc := []) (by show [AV.rs (subs _ (ints _)) _ _ _] = _; rw [subs_nums]) rfl (frame_spec R o1 (by omega) hw (by omega) o4) ?_
              rintro r H ⟨rfl, rfl⟩
              refine ⟨.inr ⟨rfl, rfl⟩, _, rfl, ?_⟩
              conv => whnf
              refine ⟨by show 0 + 12 ≤ 12; omega, ?_⟩
              conv => whnf
              refine ⟨by show 0 + 12 ≤ 12; omega, ?_⟩
              conv => whnf
              rw [w64 (x := (i : Int) + 1) (by omega) (by omega)]
              refine fin (frL R) ((i : Int) + 1) 0 _ ?_
              rw [← hdec, hnx, if_neg (by rw [hs0]; exact fun h => h rfl), if_pos h9]
            · refine acond_f (decide_eq_false h9) ?_
              conv => whnf
              refine Gh.regs [26, 25, 24, 6, 5, 2, 7, 0] (Gh.sel [0, 1, 2] rfl (Gh.of ⟨(lvP L).length - (i + 1), by omega, i + 1, R, l, n, by omega, rfl, ?_, ⟨o1, o2, h9, o3, o4, fun e => absurd e o6⟩, by omega, .inr ⟨o6, c2, hc2, (by show [_, _, Blk.c (subs _ (ints _))] = _; rw [subs_nums]; rfl)⟩, ?_⟩))
              · rw [← hdec, hnx, if_neg (by rw [hs0]; exact fun h => h rfl), if_neg h9]; rfl
              · refine keep_eq (show keepR _ _ = [_, _, _, _, _, _, _, _] from rfl) ?_
                simp only [subG, sub, subs_nums]
                rw [w64 (by omega) (by omega)]; rfl
          · obtain ⟨o1, o2, o3, o4, o5, o6⟩ := hstp hs0
            refine ⟨.inl rfl, [.c Fr0.cells, rdC (.sl (some (3, 0)) 1 R.length c2) l n, .dead, .c (ints R)], (by show [_, _, _, Blk.c (subs _ (ints _))] = _; rw [subs_nums]; rfl), ?_⟩
            conv => whnf
            refine acond_f (bne_eq_false_iff_eq.2 hs0) ?_
            conv => whnf
            refine ACall.frameH [1, 3] [] rfl (args' := [.p (some (0, 0))]) (Hc := [rdC (.sl (some (1, 0)) 1 R.length c2) l n, .c (ints R)]) rfl (by show [_, Blk.c (subs _ (ints _))] = _; rw [subs_nums]; rfl) (done_spec R l n c2 o1 (by omega) o2) ?_
            rintro r H ⟨rfl, rfl⟩
            refine ⟨.inl rfl, [.c Fr0.cells, rdC (.sl (some (3, 0)) 1 R.length c2) l n, .dead, .c (ints R)], (by show [_, _, _, Blk.c (subs _ (ints _))] = _; rw [subs_nums]; rfl), ?_⟩
            conv => whnf
            by_cases h9 : kn R = 9
            · obtain ⟨hw, hlen⟩ := kn_done h9
              refine acond_t (decide_eq_true h9) ?_
              conv => whnf
              refine ACall.frameH [] [3] rfl (args' := [.rs (ints R) 0 1 R.length]) (Hc := []) (by show [AV.rs (subs _ (ints _)) _ _ _] = _; rw [subs_nums]) rfl (frame_spec R o1 (by omega) hw (by omega) o4) ?_
              rintro r H ⟨rfl, rfl⟩
              refine ⟨.inr ⟨rfl, rfl⟩, _, rfl, ?_⟩
              conv => whnf
              refine ⟨by show 0 + 12 ≤ 12; omega, ?_⟩
              conv => whnf
              refine ⟨by show 0 + 12 ≤ 12; omega, ?_⟩
              conv => whnf
              rw [w64 (x := (i : Int) + 1) (by omega) (by omega)]
              refine fin (frL R) ((i : Int) + 1) 0 _ ?_
              rw [← hdec, hnx, if_neg (by rw [hs0]; exact fun h => h rfl), if_pos h9]
            · refine acond_f (decide_eq_false h9) ?_
              conv => whnf
              refine Gh.regs [26, 25, 24, 6, 5, 2, 7, 0] (Gh.sel [0, 1, 3] rfl (Gh.of ⟨(lvP L).length - (i + 1), by omega, i + 1, R, l, n, by omega, rfl, ?_, ⟨o1, o2, h9, o3, o4, fun e => absurd e o6⟩, by omega, .inr ⟨o6, c2, hc2, (by show [_, _, Blk.c (subs _ (ints _))] = _; rw [subs_nums]; rfl)⟩, ?_⟩))
              · rw [← hdec, hnx, if_neg (by rw [hs0]; exact fun h => h rfl), if_neg h9]; rfl
              · refine keep_eq (show keepR _ _ = [_, _, _, _, _, _, _, _] from rfl) ?_
                simp only [subG, sub, subs_nums]
                rw [w64 (by omega) (by omega)]; rfl
      · have hie : i = (lvP L).length := by omega
        have hd2 : dec L = (Fr0, ((lvP L).length : Int), fe) := by
          rw [← hdec, hie, List.drop_length]; rfl
        rcases hst with ⟨rfl, rfl, rfl, rfl⟩ | ⟨hne, c, hc, rfl⟩
        all_goals
          conv => whnf
          refine acond_f (decide_eq_false h) ?_
          conv => whnf
          by_cases hll : (lvP L).length < L.length
          · rw [hfe, if_pos hll] at hd2
            refine acond_t (decide_eq_true (by omega)) ?_
            conv => whnf
            refine ⟨by show 0 + 12 ≤ 12; omega, ?_⟩
            conv => whnf
            exact fin Fr0 _ 10 _ hd2
          · rw [hfe, if_neg hll] at hd2
            refine acond_f (decide_eq_false (by omega)) ?_
            conv => whnf
            refine ⟨by show 0 + 12 ≤ 12; omega, ?_⟩
            conv => whnf
            exact fin Fr0 _ 13 _ hd2
end Go.AK
/- Stuffing, in plain lists: no program in sight. -/
namespace Go.AK
open Go Go.RowKit
set_option linter.unusedVariables false
/-- How many are alike at the end, and the last one. -/
def endStep (st : Nat × Option Int) (x : Int) : Nat × Option Int := if st.2 = some x then (st.1 + 1, some x) else (1, some x)
def endOf (l : List Int) : Nat × Option Int := l.foldl endStep (0, none)
def tailRun (l : List Int) : Nat := (endOf l).1
theorem endOf_snoc (l : List Int) (x : Int) : endOf (l ++ [x]) = endStep (endOf l) x := by simp [endOf]
theorem endOf_last (l : List Int) : (endOf l).2 = l.getLast? := by
  induction l using snoc_ind with
  | h0 => rfl
  | h1 l x ih => rw [endOf_snoc]; unfold endStep; split <;> simp
theorem tailRun_nil : tailRun [] = 0 := rfl
theorem tailRun_snoc (l : List Int) (x : Int) : tailRun (l ++ [x]) = if l.getLast? = some x then tailRun l + 1 else 1 := by
  unfold tailRun
  rw [endOf_snoc, endStep, endOf_last]
  split <;> rfl
theorem tailRun_pos (l : List Int) (x : Int) : 1 ≤ tailRun (l ++ [x]) := by rw [tailRun_snoc]; split <;> omega
theorem tailRun_le (l : List Int) : tailRun l ≤ l.length := by
  induction l using snoc_ind with
  | h0 => exact Nat.le_refl _
  | h1 l x ih => rw [tailRun_snoc, List.length_append, List.length_singleton]; split <;> omega
theorem last_snoc (l : List Int) (x : Int) : (l ++ [x]).getLast? = some x := by simp

/-- One level more, stuffed. -/
def addS (o : List Int) (x : Int) : List Int := if tailRun (o ++ [x]) = 5 then o ++ [x] ++ [1 - x] else o ++ [x]
def stuffed (l : List Int) : List Int := l.foldl addS []
theorem stuffed_nil : stuffed [] = [] := rfl
theorem stuffed_snoc (l : List Int) (x : Int) : stuffed (l ++ [x]) = addS (stuffed l) x := by simp [stuffed]
theorem addS_other (o : List Int) (x : Int) : tailRun (o ++ [x] ++ [1 - x]) = 1 := by
  rw [tailRun_snoc, last_snoc, if_neg (by intro h; injection h; omega)]
theorem stuffed_tail (l : List Int) : tailRun (stuffed l) ≤ 4 := by
  induction l using snoc_ind with
  | h0 => decide
  | h1 l x ih =>
    rw [stuffed_snoc, addS]
    by_cases h : tailRun (stuffed l ++ [x]) = 5
    · rw [if_pos h, addS_other]; omega
    · rw [if_neg h]
      rw [tailRun_snoc] at h ⊢
      split <;> rename_i hc
      · rw [if_pos hc] at h; omega
      · omega
theorem lv_other {x : Int} (h : x = 0 ∨ x = 1) : 1 - x = 0 ∨ 1 - x = 1 := by omega
theorem isLv_snoc {l : List Int} {x : Int} : isLv (l ++ [x]) ↔ isLv l ∧ (x = 0 ∨ x = 1) := by
  rw [isLv_append, isLv_cons]
  exact ⟨fun h => ⟨h.1, h.2.1⟩, fun h => ⟨h.1, h.2, isLv_nil⟩⟩
theorem stuffed_lv {l : List Int} (h : isLv l) : isLv (stuffed l) := by
  induction l using snoc_ind with
  | h0 => exact isLv_nil
  | h1 l x ih =>
    rw [isLv_snoc] at h
    rw [stuffed_snoc, addS]
    split
    · exact isLv_snoc.2 ⟨isLv_snoc.2 ⟨ih h.1, h.2⟩, lv_other h.2⟩
    · exact isLv_snoc.2 ⟨ih h.1, h.2⟩
theorem stuffed_length (l : List Int) : l.length ≤ (stuffed l).length ∧ 4 * ((stuffed l).length - l.length) + tailRun (stuffed l) ≤ l.length := by
  induction l using snoc_ind with
  | h0 => exact ⟨Nat.le_refl _, by decide⟩
  | h1 l x ih =>
    have ht := stuffed_tail l
    rw [stuffed_snoc, addS]
    by_cases h : tailRun (stuffed l ++ [x]) = 5
    · rw [if_pos h, addS_other]
      have : tailRun (stuffed l) = 4 := by
        rw [tailRun_snoc] at h
        split at h <;> omega
      simp only [List.length_append, List.length_singleton]
      omega
    · rw [if_neg h, tailRun_snoc]
      simp only [List.length_append, List.length_singleton]
      split <;> omega
theorem stuffed_most (l : List Int) : (stuffed l).length - l.length ≤ (l.length - 1) / 4 := by
  have h := stuffed_length l
  rcases snoc_cases l with rfl | ⟨t, x, rfl⟩
  · simp [stuffed_nil]
  · have : 1 ≤ tailRun (stuffed (t ++ [x])) := by
      rw [stuffed_snoc, addS]
      split
      · exact tailRun_pos _ _
      · exact tailRun_pos _ _
    omega
theorem stuffed_append (a b : List Int) : stuffed (a ++ b) = b.foldl addS (stuffed a) := by simp [stuffed]
theorem stuffed_prefix (a b : List Int) : stuffed a <+: stuffed (a ++ b) := by
  induction b using snoc_ind with
  | h0 => simp
  | h1 b x ih =>
    rw [← List.append_assoc, stuffed_snoc, addS]
    split
    · exact ih.trans ⟨[x] ++ [1 - x], by simp⟩
    · exact ih.trans ⟨[x], by simp⟩
theorem tailRun_other (l : List Int) : tailRun (l.map (1 - ·)) = tailRun l := by
  induction l using snoc_ind with
  | h0 => rfl
  | h1 l x ih =>
    rw [List.map_append, List.map_singleton, tailRun_snoc, tailRun_snoc, ih, List.getLast?_map]
    congr 1
    cases l.getLast? with
    | none => simp
    | some y =>
      simp only [Option.map_some, Option.some.injEq, eq_iff_iff]
      omega
theorem stuffed_other (l : List Int) : stuffed (l.map (1 - ·)) = (stuffed l).map (1 - ·) := by
  induction l using snoc_ind with
  | h0 => rfl
  | h1 l x ih =>
    rw [List.map_append, List.map_singleton, stuffed_snoc, stuffed_snoc, ih, addS, addS]
    have e : List.map (fun x => 1 - x) (stuffed l) ++ [1 - x] = List.map (fun x => 1 - x) (stuffed l ++ [x]) := by simp
    rw [e, tailRun_other]
    split <;> simp

/-- One level more, taken: the row so far, and what was taken. -/
def takeS (st : Except (Int × Int) (List Int × List Int)) (x : Int) : Except (Int × Int) (List Int × List Int) :=
  match st with
  | .error e => .error e
  | .ok (p, o) => if 5 ≤ tailRun p then (if p.getLast? = some x then .error (p.length, 17) else .ok (p ++ [x], o)) else .ok (p ++ [x], o ++ [x])
def takeSt (l : List Int) : Except (Int × Int) (List Int × List Int) := l.foldl takeS (.ok ([], []))
theorem takeSt_snoc (l : List Int) (x : Int) : takeSt (l ++ [x]) = takeS (takeSt l) x := by simp [takeSt]
theorem takeSt_ok (l : List Int) : ∀ p o, takeSt l = .ok (p, o) → p = l ∧ o.length ≤ l.length ∧ tailRun l ≤ 5 ∧ (isLv l → isLv o) := by
  induction l using snoc_ind with
  | h0 => intro p o h; simp [takeSt] at h; obtain ⟨rfl, rfl⟩ := h; simp [isLv_nil, tailRun_nil]
  | h1 l x ih =>
    intro p o h
    rw [takeSt_snoc] at h
    cases ht : takeSt l with
    | error e => rw [ht] at h; simp [takeS] at h
    | ok v =>
      obtain ⟨q, u⟩ := v
      obtain ⟨h1, h2, h3, h4⟩ := ih q u ht
      subst h1
      rw [ht] at h
      simp only [takeS] at h
      rw [List.length_append, List.length_singleton, tailRun_snoc]
      by_cases h5 : 5 ≤ tailRun q
      · rw [if_pos h5] at h
        by_cases hx : q.getLast? = some x
        · rw [if_pos hx] at h; simp at h
        · rw [if_neg hx] at h ⊢
          simp only [Except.ok.injEq, Prod.mk.injEq] at h
          obtain ⟨rfl, rfl⟩ := h
          exact ⟨rfl, by omega, by omega, fun hl => h4 (isLv_snoc.1 hl).1⟩
      · rw [if_neg h5] at h
        simp only [Except.ok.injEq, Prod.mk.injEq] at h
        obtain ⟨rfl, rfl⟩ := h
        refine ⟨rfl, by rw [List.length_append, List.length_singleton]; omega, ?_, fun hl => ?_⟩
        · split <;> omega
        · rw [isLv_snoc] at hl ⊢
          exact ⟨h4 hl.1, hl.2⟩
theorem takeSt_at (l : List Int) : ∀ a e, takeSt l = .error (a, e) → 0 ≤ a ∧ a < l.length ∧ e = 17 := by
  induction l using snoc_ind with
  | h0 => intro a e h; simp [takeSt] at h
  | h1 l x ih =>
    intro a e h
    rw [takeSt_snoc] at h
    rw [List.length_append, List.length_singleton]
    cases ht : takeSt l with
    | error v =>
      obtain ⟨b, f⟩ := v
      rw [ht] at h
      simp only [takeS, Except.error.injEq, Prod.mk.injEq] at h
      obtain ⟨rfl, rfl⟩ := h
      have := ih b f ht
      omega
    | ok v =>
      obtain ⟨q, u⟩ := v
      obtain ⟨rfl, _⟩ := takeSt_ok l q u ht
      rw [ht] at h
      simp only [takeS] at h
      split at h
      · split at h
        · simp only [Except.error.injEq, Prod.mk.injEq] at h
          obtain ⟨rfl, rfl⟩ := h
          omega
        · simp at h
      · simp at h
theorem takeSt_add {l : List Int} : takeSt (stuffed l) = .ok (stuffed l, l) := by
  induction l using snoc_ind with
  | h0 => rfl
  | h1 l x ih =>
    have ht := stuffed_tail l
    have h1 : takeSt (stuffed l ++ [x]) = .ok (stuffed l ++ [x], l ++ [x]) := by
      rw [takeSt_snoc, ih, takeS, if_neg (by omega)]
    rw [stuffed_snoc, addS]
    by_cases h : tailRun (stuffed l ++ [x]) = 5
    · rw [if_pos h, takeSt_snoc, h1, takeS, if_pos (by omega), last_snoc, if_neg (by intro h; injection h; omega)]
    · rw [if_neg h, h1]
theorem stuffed_take (m : List Int) (hm : isLv m) : ∀ o, takeSt m = .ok (m, o) → if 5 ≤ tailRun m then ∃ y, m.getLast? = some y ∧ stuffed o = m ++ [1 - y] else stuffed o = m := by
  induction m using snoc_ind with
  | h0 =>
    intro o h
    simp [takeSt] at h
    subst h
    simp [tailRun_nil, stuffed_nil]
  | h1 m x ih =>
    intro o h
    rw [isLv_snoc] at hm
    rw [takeSt_snoc] at h
    cases ht : takeSt m with
    | error e => rw [ht] at h; simp [takeS] at h
    | ok v =>
      obtain ⟨q, u⟩ := v
      obtain ⟨rfl, _, h5', _⟩ := takeSt_ok m q u ht
      have ihm := ih hm.1 u ht
      rw [ht] at h
      simp only [takeS] at h
      by_cases h5 : 5 ≤ tailRun q
      · rw [if_pos h5] at h ihm
        obtain ⟨y, hy, hs⟩ := ihm
        by_cases hx : q.getLast? = some x
        · rw [if_pos hx] at h; simp at h
        · rw [if_neg hx] at h
          simp only [Except.ok.injEq, Prod.mk.injEq, true_and] at h
          subst h
          rw [tailRun_snoc, if_neg hx, if_neg (by omega), hs]
          have hyl : y = 0 ∨ y = 1 := hm.1 y (List.mem_of_getLast? hy)
          have hne : y ≠ x := fun e => hx (by rw [hy, e])
          rw [show 1 - y = x by omega]
      · rw [if_neg h5] at h ihm
        simp only [Except.ok.injEq, Prod.mk.injEq, true_and] at h
        subst h
        have hle : tailRun (q ++ [x]) ≤ 5 := by rw [tailRun_snoc]; split <;> omega
        rw [stuffed_snoc, ihm, addS, last_snoc]
        by_cases he : tailRun (q ++ [x]) = 5
        · rw [if_pos (by omega), if_pos he]
          exact ⟨x, rfl, rfl⟩
        · rw [if_neg (by omega), if_neg he]
/-- What taking a whole row answers. -/
def takeR (l : List Int) : List Int × Int × Int :=
  match takeSt l with
  | .error (a, e) => ([], a, e)
  | .ok (_, o) => if 5 ≤ tailRun l then ([], l.length, 13) else (o, 0, 0)
theorem takeR_add (l : List Int) : takeR (stuffed l) = (l, 0, 0) := by
  have := stuffed_tail l
  unfold takeR
  rw [takeSt_add]
  simp only
  rw [if_neg (by omega)]
theorem takeR_ok {m a : List Int} {i : Int} (hm : isLv m) (h : takeR m = (a, i, 0)) : stuffed a = m ∧ i = 0 ∧ a.length ≤ m.length ∧ isLv a := by
  unfold takeR at h
  cases ht : takeSt m with
  | error v =>
    obtain ⟨b, e⟩ := v
    have := takeSt_at m b e ht
    rw [ht] at h
    simp only [Prod.mk.injEq] at h
    omega
  | ok v =>
    obtain ⟨q, u⟩ := v
    obtain ⟨rfl, h2, h3, h4⟩ := takeSt_ok m q u ht
    have hs := stuffed_take q hm u ht
    rw [ht] at h
    simp only at h
    by_cases h5 : 5 ≤ tailRun q
    · rw [if_pos h5] at h
      simp at h
    · rw [if_neg h5] at h hs
      simp only [Prod.mk.injEq] at h
      obtain ⟨rfl, rfl, _⟩ := h
      exact ⟨hs, rfl, h2, h4 hm⟩
theorem takeR_err {m a : List Int} {i e : Int} (h : takeR m = (a, i, e)) (he : e ≠ 0) : a = [] ∧ 0 ≤ i ∧ i ≤ m.length := by
  unfold takeR at h
  cases ht : takeSt m with
  | error v =>
    obtain ⟨b, f⟩ := v
    have := takeSt_at m b f ht
    rw [ht] at h
    simp only [Prod.mk.injEq] at h
    obtain ⟨rfl, rfl, rfl⟩ := h
    exact ⟨rfl, by omega, by omega⟩
  | ok v =>
    rw [ht] at h
    simp only at h
    split at h
    · simp only [Prod.mk.injEq] at h
      obtain ⟨rfl, rfl, rfl⟩ := h
      exact ⟨rfl, by omega, by omega⟩
    · simp only [Prod.mk.injEq] at h
      omega
theorem takeSt_app (a b : List Int) : ∀ o, takeSt (a ++ b) = .ok (a ++ b, o) → ∃ u, takeSt a = .ok (a, u) ∧ u <+: o := by
  induction b using snoc_ind with
  | h0 => intro o h; simp at h; exact ⟨o, h, List.prefix_refl _⟩
  | h1 b x ih =>
    intro o h
    rw [← List.append_assoc, takeSt_snoc] at h
    cases ht : takeSt (a ++ b) with
    | error e => rw [ht] at h; simp [takeS] at h
    | ok v =>
      obtain ⟨q, u⟩ := v
      obtain ⟨rfl, _⟩ := takeSt_ok _ q u ht
      obtain ⟨u', h1, h2⟩ := ih u ht
      refine ⟨u', h1, ?_⟩
      rw [ht] at h
      simp only [takeS] at h
      split at h
      · split at h
        · simp at h
        · simp only [Except.ok.injEq, Prod.mk.injEq, true_and] at h
          subst h
          exact h2
      · simp only [Except.ok.injEq, Prod.mk.injEq, true_and] at h
        subst h
        exact h2.trans ⟨[x], rfl⟩
end Go.AK
/- A frame's levels in plain Lean. -/
namespace Go.AK
open Go Go.RowKit
set_option linter.unusedVariables false
def Fr.rw_ (F : Fr) : Nat := if F.ext = true then 6 else 5
def Fr.headL (F : Fr) : List Int := [0] ++ F.row ++ ofI F.len F.rw_
def Fr.datL (F : Fr) (k : Nat) : List Int := ((F.d.take k).map fun x => ofI x 8).flatten
def Fr.bitsL (F : Fr) : List Int := F.headL ++ F.datL F.out
def Fr.sumL (F : Fr) : List Int := ofI (crcN F.bitsL : Nat) 15
def Fr.coreL (F : Fr) : List Int := F.bitsL ++ F.sumL
def Fr.allL (F : Fr) : List Int := F.coreL ++ List.replicate 10 1
theorem Fr.d_len (F : Fr) : F.d.length = 8 := rfl
theorem row_len' (F : Fr) : F.row.length = if F.ext = true then 32 else 13 := by
  unfold Fr.row
  split <;> simp [ofI_length]
theorem row_lv' (F : Fr) : isLv F.row := by
  have hr : F.rt = 0 ∨ F.rt = 1 := by unfold Fr.rt; split <;> simp
  unfold Fr.row
  split
  · exact isLv_append.2 ⟨isLv_append.2 ⟨isLv_append.2 ⟨ofI_lv _ _, isLv_cons.2 ⟨.inr rfl, isLv_cons.2 ⟨.inr rfl, isLv_nil⟩⟩⟩, ofI_lv _ _⟩, isLv_cons.2 ⟨hr, isLv_nil⟩⟩
  · exact isLv_append.2 ⟨ofI_lv _ _, isLv_cons.2 ⟨hr, isLv_cons.2 ⟨.inl rfl, isLv_nil⟩⟩⟩
theorem Fr.head_len (F : Fr) : F.headL.length = if F.ext = true then 39 else 19 := by
  unfold Fr.headL Fr.rw_
  rw [List.length_append, List.length_append, row_len', ofI_length]
  split <;> rfl
theorem Fr.head_lv (F : Fr) : isLv F.headL := isLv_append.2 ⟨isLv_append.2 ⟨isLv_cons.2 ⟨.inl rfl, isLv_nil⟩, row_lv' F⟩, ofI_lv _ _⟩
theorem Fr.dat_next (F : Fr) {k : Nat} (hk : k < 8) : F.datL (k + 1) = F.datL k ++ ofI (F.d.getD k 0) 8 := by
  unfold Fr.datL
  have h : k < F.d.length := hk
  rw [List.take_succ_eq_append_getElem h, List.map_append, List.flatten_append, List.getD_eq_getElem?_getD, List.getElem?_eq_getElem h]
  simp
theorem Fr.dat_len (F : Fr) : ∀ {k : Nat}, k ≤ 8 → (F.datL k).length = 8 * k
  | 0, _ => rfl
  | k + 1, h => by rw [F.dat_next (by omega), List.length_append, F.dat_len (by omega), ofI_length]; omega
theorem Fr.dat_lv (F : Fr) : ∀ {k : Nat}, k ≤ 8 → isLv (F.datL k)
  | 0, _ => isLv_nil
  | k + 1, h => by rw [F.dat_next (by omega)]; exact isLv_append.2 ⟨F.dat_lv (by omega), ofI_lv _ _⟩
theorem Fr.out_le {F : Fr} (h : F.may) : F.out ≤ 8 := by
  have h1 := h.2.2.1
  have h2 := h.2.2.2.1
  unfold Fr.out; split <;> omega
theorem Fr.bits_len {F : Fr} (h : F.may) : F.bitsL.length = (if F.ext = true then 39 else 19) + 8 * F.out := by
  unfold Fr.bitsL
  rw [List.length_append, F.head_len, F.dat_len (Fr.out_le h)]
theorem Fr.bits_lv {F : Fr} (h : F.may) : isLv F.bitsL := isLv_append.2 ⟨F.head_lv, F.dat_lv (Fr.out_le h)⟩
theorem Fr.sum_len (F : Fr) : F.sumL.length = 15 := ofI_length _ _
theorem Fr.core_lv {F : Fr} (h : F.may) : isLv F.coreL := isLv_append.2 ⟨Fr.bits_lv h, ofI_lv _ _⟩
theorem Fr.core_len {F : Fr} (h : F.may) : F.coreL.length = (if F.ext = true then 54 else 34) + 8 * F.out := by
  unfold Fr.coreL
  rw [List.length_append, Fr.bits_len h, F.sum_len]
  split <;> omega
theorem Fr.all_lv {F : Fr} (h : F.may) : isLv F.allL := isLv_append.2 ⟨Fr.core_lv h, isLv_replicate _ (.inr rfl)⟩
theorem Fr.all_len {F : Fr} (h : F.may) : F.allL.length = (if F.ext = true then 64 else 44) + 8 * F.out := by
  unfold Fr.allL
  rw [List.length_append, Fr.core_len h, List.length_replicate]
  split <;> omega
theorem Fr.cell (F : Fr) {i : Nat} (h : i < 8) : F.cells[4 + i]? = some (.i .u8 (F.d.getD i 0)) := by
  have hc : i = 0 ∨ i = 1 ∨ i = 2 ∨ i = 3 ∨ i = 4 ∨ i = 5 ∨ i = 6 ∨ i = 7 := by omega
  rcases hc with rfl | rfl | rfl | rfl | rfl | rfl | rfl | rfl <;> rfl
theorem Fr.d_in {F : Fr} (h : F.ok) (i : Nat) : 0 ≤ F.d.getD i 0 ∧ F.d.getD i 0 < 256 := by
  by_cases hi : i < F.d.length
  · rw [List.getD_eq_getElem?_getD, List.getElem?_eq_getElem hi]
    exact h.d _ (List.getElem_mem hi)
  · rw [List.getD_eq_getElem?_getD, List.getElem?_eq_none (by omega)]
    show (0 : Int) ≤ 0 ∧ (0 : Int) < 256
    omega
/-- A frame's levels on the bus. -/
def Fr.encL (F : Fr) (ack : Bool) : List Int := stuffed F.coreL ++ ([1, if ack = true then 0 else 1] ++ List.replicate 8 1)
end Go.AK
namespace Go.AK
open Go Go.RowKit Go.Proofs
set_option linter.unusedVariables false
set_option maxRecDepth 100000
theorem take_get {M : List AV} {o : List Int} (hM : M.take o.length = ints o) {i : Nat} (h : i < o.length) : M[i]? = some (.i .i64 o[i]) := by
  have h1 : (M.take o.length)[i]? = M[i]? := List.getElem?_take_of_lt h
  rw [← h1, hM]
  simp [nums, h]
theorem take_le {M : List AV} {o : List Int} (hM : M.take o.length = ints o) : o.length ≤ M.length := by
  have := congrArg List.length hM
  rw [nums_length, List.length_take] at this
  omega
theorem getLast_get {o : List Int} (h : 0 < o.length) : o.getLast? = some (o[o.length - 1]'(by omega)) := by
  rw [List.getLast?_eq_getElem?, List.getElem?_eq_getElem (by omega)]
theorem other_spec (x : Int) (hx : x = 0 ∨ x = 1) : ACall Try.prog 48 [.i .i64 x] [] fun r H => r = .ret (.i .i64 (1 - x)) ∧ H = [] := by
  refine ACall.enter tok false Try.func48 rfl rfl rfl (AW_sound (ip := false) tok _ _ _ _ ?_)
  conv => whnf
  rw [w64 (by omega) (by omega)]
  exact ⟨rfl, rfl⟩
def TellK (o : List Int) (x : Int) (r : ARes) (H : Heap) : Prop := r = .ret (.b (decide (tailRun (o ++ [x]) = 5))) ∧
  ∃ c, o.length + 1 ≤ c ∧ H = [.c [.sl (some (3, 0)) 1 (o.length + 1) c], .c [.i .i64 (tailRun (o ++ [x]) : Nat)], .dead, .c (ints (o ++ [x]))]
set_option maxHeartbeats 2000000 in
theorem tell_spec (o : List Int) (x : Int) (M : List AV) (c : Nat) (hc : o.length ≤ c) (hM : M.take o.length = ints o) (hL : o.length < 1000000) :
    ACall Try.prog 47 [.i .i64 x, .p (some (0, 0)), .p (some (1, 0))] [.c [.sl (some (2, 0)) 1 o.length c], .c [.i .i64 (tailRun o : Nat)], .c M] (TellK o x) := by
  refine ACall.gh ?_
  refine ACall.enter tok false Try.func47 rfl rfl rfl (AW_sound (ip := false) tok _ _ _ _ ?_)
  have hle := take_le hM
  have htr := tailRun_le o
  have fin : ∀ (v : Nat) (b : Bool) (g : Nat) (Z : List AV), v = tailRun (o ++ [x]) → b = decide (v = 5) → o.length + 1 ≤ g → Z = ints (o ++ [x]) →
      GhR 3 (TellK o x) (.ret (.b b)) [.c [.sl (some (4, 0)) 1 (o.length + 1) g], .c [.i .i64 v], .dead, .c [.i .i64 x], .c Z] := by
    rintro v b g Z rfl rfl hg rfl
    refine GhR.sel [0, 1, 2, 4] rfl (GhR.of ⟨rfl, g, hg, ?_⟩)
    show [_, _, _, Blk.c (subs _ (ints (o ++ [x])))] = _
    rw [subs_nums]; rfl
  have hZ : List.take (o.length * 1) (List.drop 0 M) ++ ints [x] = ints (o ++ [x]) := by
    rw [List.drop_zero, Nat.mul_one, hM, ← nums_append]
  have hw5 : ∀ v : Nat, (((v : Nat) : Int) == 5) = decide (v = 5) := fun v => by rw [Bool.eq_iff_iff]; simp; omega
  conv => whnf
  by_cases h0 : 0 < o.length
  · have hg0 : ((o.length : Nat) : Int) > 0 := by omega
    have hlast := getLast_get h0
    repeat (refine acond_t (decide_eq_true hg0) ?_; conv => whnf)
    have hw : IntKind.i64.wrap ((o.length : Int) - 1) = ((o.length - 1 : Nat) : Int) := by rw [w64 (by omega) (by omega)]; omega
    refine ⟨⟨by rw [hw]; omega, by rw [hw]; omega⟩, ?_⟩
    conv => whnf
    repeat (refine acond_t (decide_eq_true hg0) ?_; conv => whnf)
    refine aget_at (i := o.length - 1) (by rw [hw]; omega) (take_get hM (by omega)) ?_
    conv => whnf
    repeat (refine acond_t (decide_eq_true hg0) ?_; conv => whnf)
    by_cases hx : o[o.length - 1] = x
    · have ht : tailRun (o ++ [x]) = tailRun o + 1 := by rw [tailRun_snoc, if_pos (by rw [hlast, hx])]
      refine acond_t (beq_iff_eq.2 hx) ?_
      conv => whnf
      refine ⟨by show 0 + 1 ≤ 1; omega, ?_⟩
      conv => whnf
      refine ⟨by show 0 + o.length * 1 ≤ M.length; omega, ?_⟩
      conv => whnf
      refine ⟨by show 1 ≤ (1 : Nat); omega, ?_⟩
      conv => whnf
      refine ⟨rfl, by (try dsimp only); omega, by omega, fun g hg => ?_⟩
      conv => whnf
      refine ⟨by show 0 + 1 ≤ 1; omega, ?_⟩
      conv => whnf
      have hwr : IntKind.i64.wrap (((tailRun o : Nat) : Int) + 1) = ((tailRun o + 1 : Nat) : Int) := by rw [w64 (by omega) (by omega)]; omega
      rw [hwr]
      exact fin (tailRun o + 1) _ g _ ht.symm (hw5 _) hg hZ
    · have ht : tailRun (o ++ [x]) = 1 := by rw [tailRun_snoc, if_neg (by rw [hlast]; intro h; injection h with h; exact hx h)]
      refine acond_f (beq_eq_false_iff_ne.2 hx) ?_
      conv => whnf
      refine ⟨by show 0 + 1 ≤ 1; omega, ?_⟩
      conv => whnf
      refine ⟨by show 0 + o.length * 1 ≤ M.length; omega, ?_⟩
      conv => whnf
      refine ⟨by show 1 ≤ (1 : Nat); omega, ?_⟩
      conv => whnf
      refine ⟨rfl, by (try dsimp only); omega, by omega, fun g hg => ?_⟩
      conv => whnf
      refine ⟨by show 0 + 1 ≤ 1; omega, ?_⟩
      conv => whnf
      exact fin 1 _ g _ ht.symm rfl hg hZ
  · have hg0 : ¬ ((o.length : Nat) : Int) > 0 := by omega
    have ho : o = [] := List.eq_nil_of_length_eq_zero (by omega)
    have ht : tailRun (o ++ [x]) = 1 := by rw [ho]; rfl
    repeat (refine acond_f (decide_eq_false hg0) ?_; conv => whnf)
    refine ⟨by show 0 + 1 ≤ 1; omega, ?_⟩
    conv => whnf
    refine ⟨by show 0 + o.length * 1 ≤ M.length; omega, ?_⟩
    conv => whnf
    refine ⟨by show 1 ≤ (1 : Nat); omega, ?_⟩
    conv => whnf
    refine ⟨rfl, by (try dsimp only); omega, by omega, fun g hg => ?_⟩
    conv => whnf
    refine ⟨by show 0 + 1 ≤ 1; omega, ?_⟩
    conv => whnf
    exact fin 1 _ g _ ht.symm rfl hg hZ
set_option maxHeartbeats 4000000 in
theorem add_spec (L : List Int) (hl : isLv L) (hL : L.length < 100000) : ACall Try.prog 28 [.rs (ints L) 0 1 L.length] [] fun r H => ∃ c, (stuffed L).length ≤ c ∧ r = .ret (.sl (some (0, 0)) 1 (stuffed L).length c) ∧ H = [.c (ints (stuffed L))] := by
  refine ACall.gh ?_
  refine ACall.enter tok false Try.func28 rfl rfl rfl (AW_sound (ip := false) tok _ _ _ _ ?_)
  conv => whnf
  refine ACall.mono (chkLv_spec L (by omega) hl) ?_; rintro r H ⟨rfl, rfl⟩
  conv => whnf
  have hcap : IntKind.i64.wrap ((L.length : Int) + IntKind.i64.wrap ((L.length : Int).tdiv 4)) = ((L.length + L.length / 4 : Nat) : Int) := by
    rw [Int.tdiv_eq_ediv_of_nonneg (by omega), w64 (x := (L.length : Int) / 4) (by omega) (by omega), w64 (by omega) (by omega)]; omega
  refine ⟨by omega, ?_⟩
  conv => whnf
  refine ⟨⟨by omega, by rw [hcap]; omega, by rw [hcap]; show (8 : Int) * _ ≤ _; omega, by rw [hcap]; omega⟩, ?_⟩
  conv => whnf
  refine ⟨by show 0 + 1 ≤ 1; omega, ?_⟩
  conv => whnf
  refine ⟨by show 0 + 1 ≤ 1; omega, ?_⟩
  conv => whnf
  have hstl : ∀ i, (stuffed (L.take i)).length ≤ L.length + L.length / 4 := fun i => by
    have h1 := stuffed_length (L.take i)
    have h2 : (L.take i).length ≤ L.length := by rw [List.length_take]; omega
    omega
  refine ALoop.ind (ip := false) tok (fun m r H => ∃ (i c : Nat) (Z : List Int), i ≤ L.length ∧ m = L.length - i ∧ (stuffed (L.take i)).length ≤ c ∧ Z.take (stuffed (L.take i)).length = stuffed (L.take i) ∧ (i = L.length → Z = stuffed L) ∧
    H = [.c (ints Z), .c [.sl (some (0, 0)) 1 (stuffed (L.take i)).length c], .c [.i .i64 (tailRun (stuffed (L.take i)) : Nat)]] ∧
    r = [(21, .i .i64 i), (20, .i .i64 L.length), (19, .rs (ints L) 0 1 L.length), (5, .fn (.func 47) [] [.p (some (1, 0)), .p (some (2, 0))]), (3, .p (some (1, 0)))]) L.length ?_ ?_
  · refine Gh.regs [21, 20, 19, 5, 3] (Gh.of ⟨0, L.length + L.length / 4, List.replicate (L.length + L.length / 4) 0, by omega, by omega, by simp [stuffed_nil], by simp [stuffed_nil], ?_, ?_, rfl⟩)
    · intro h
      have h2 : L = [] := List.eq_nil_of_length_eq_zero (by omega)
      subst h2
      rfl
    · show [Blk.c (List.replicate (Int.toNat (IntKind.i64.wrap ((L.length : Int) + IntKind.i64.wrap ((L.length : Int).tdiv 4)))) [AV.i .i64 0]).flatten, Blk.c [AV.sl _ _ (Int.toNat 0) (Int.toNat (IntKind.i64.wrap ((L.length : Int) + IntKind.i64.wrap ((L.length : Int).tdiv 4))))], _] = _
      rw [hcap, Int.toNat_natCast, nums_replicate]; rfl
  · rintro m r H ⟨i, c, Z, hi, rfl, hc, hM, hend, rfl, rfl⟩
    have hsl := hstl i
    by_cases h : (i : Int) < L.length
    · have hil : i < L.length := by omega
      have hx := hl _ (List.getElem_mem hil)
      have hsn : stuffed (L.take (i + 1)) = addS (stuffed (L.take i)) L[i] := by rw [List.take_succ_eq_append_getElem hil, stuffed_snoc]
      have hend2 : i + 1 = L.length → stuffed (L.take (i + 1)) = stuffed L := fun e => by rw [e, List.take_length]
      have hol : (stuffed (L.take (i + 1))).length ≤ L.length + L.length / 4 := hstl _
      generalize hO : stuffed (L.take i) = o at hc hM hsl hsn
      generalize hX : L[i] = x at hx hsn
      generalize hN : stuffed (L.take (i + 1)) = o2 at hsn hend2 hol
      have hT := tell_spec o x (ints Z) c hc (by rw [nums_take, hM]) (by omega)
      conv => whnf
      refine acond_t (decide_eq_true h) ?_
      conv => whnf
      refine ⟨⟨by omega, h⟩, ?_⟩
      conv => whnf
      refine aget_num (i := i) (by omega) ((List.getElem?_eq_getElem hil).trans (congrArg some hX)) ?_
      conv => whnf
      refine ACall.frameH [1, 2, 0] [] rfl (args' := [.i .i64 x, .p (some (0, 0)), .p (some (1, 0))]) (Hc := [.c [.sl (some (2, 0)) 1 o.length c], .c [.i .i64 (tailRun o : Nat)], .c (ints Z)]) rfl (by show [_, _, Blk.c (subs _ (ints _))] = _; rw [subs_nums]; rfl) hT ?_
      rintro r H ⟨rfl, c2, hc2, rfl⟩
      refine ⟨.inl rfl, [.dead, .c [.sl (some (3, 0)) 1 (o.length + 1) c2], .c [.i .i64 (tailRun (o ++ [x]) : Nat)], .c (ints (o ++ [x]))], (by show [_, _, _, Blk.c (subs _ (ints _))] = _; rw [subs_nums]; rfl), ?_⟩
      conv => whnf
      by_cases h5 : tailRun (o ++ [x]) = 5
      · have ho2 : o2 = o ++ [x] ++ [1 - x] := by rw [hsn, addS, if_pos h5]
        have hlen2 : (o ++ [x]).length = o.length + 1 := by rw [List.length_append]; rfl
        have hlen3 : (o ++ [x] ++ [1 - x]).length = o.length + 2 := by rw [List.length_append, hlen2]; rfl
        rw [ho2] at hol
        have hT2 := tell_spec (o ++ [x]) (1 - x) (ints (o ++ [x])) c2 (by omega) (by rw [nums_take, List.take_length]) (by omega)
        refine acond_t (decide_eq_true h5) ?_
        conv => whnf
        refine ACall.frameH [] [] rfl (args' := [.i .i64 x]) (Hc := []) rfl rfl (other_spec x hx) ?_
        rintro r H ⟨rfl, rfl⟩
        refine ⟨.inl rfl, [.dead, .c [.sl (some (3, 0)) 1 (o.length + 1) c2], .c [.i .i64 (tailRun (o ++ [x]) : Nat)], .c (ints (o ++ [x]))], rfl, ?_⟩
        conv => whnf
        refine ACall.frameH [1, 2, 3] [] rfl (args' := [.i .i64 (1 - x), .p (some (0, 0)), .p (some (1, 0))]) (Hc := [.c [.sl (some (2, 0)) 1 (o ++ [x]).length c2], .c [.i .i64 (tailRun (o ++ [x]) : Nat)], .c (ints (o ++ [x]))]) rfl (by show [_, _, Blk.c (subs _ (ints _))] = _; rw [subs_nums, hlen2]; rfl) hT2 ?_
        rintro r H ⟨rfl, c3, hc3, rfl⟩
        refine ⟨.inl rfl, [.dead, .c [.sl (some (4, 0)) 1 ((o ++ [x]).length + 1) c3], .c [.i .i64 (tailRun (o ++ [x] ++ [1 - x]) : Nat)], .dead, .c (ints (o ++ [x] ++ [1 - x]))], (by show [_, _, _, _, Blk.c (subs _ (ints _))] = _; rw [subs_nums]; rfl), ?_⟩
        conv => whnf
        refine Gh.regs [21, 20, 19, 5, 3] (Gh.sel [4, 1, 2] rfl (Gh.of ⟨L.length - (i + 1), by omega, i + 1, c3, o2, by omega, rfl, by rw [hN, ho2, hlen3]; omega, by rw [hN, List.take_length], hend2, ?_, ?_⟩))
        · show [Blk.c (subs _ (ints _)), _, _] = _
          rw [subs_nums, hN, ho2, hlen3, hlen2]; rfl
        · refine keep_eq (show keepR _ _ = [_, _, _, _, _] from rfl) ?_
          simp only [subG, sub, subs_nums]
          rw [w64 (by omega) (by omega)]; rfl
      · have ho2 : o2 = o ++ [x] := by rw [hsn, addS, if_neg h5]
        have hlen2 : (o ++ [x]).length = o.length + 1 := by rw [List.length_append]; rfl
        refine acond_f (decide_eq_false h5) ?_
        conv => whnf
        refine Gh.regs [21, 20, 19, 5, 3] (Gh.sel [3, 1, 2] rfl (Gh.of ⟨L.length - (i + 1), by omega, i + 1, c2, o2, by omega, rfl, by rw [hN, ho2, hlen2]; omega, by rw [hN, List.take_length], hend2, ?_, ?_⟩))
        · show [Blk.c (subs _ (ints _)), _, _] = _
          rw [subs_nums, hN, ho2, hlen2]; rfl
        · refine keep_eq (show keepR _ _ = [_, _, _, _, _] from rfl) ?_
          simp only [subG, sub, subs_nums]
          rw [w64 (by omega) (by omega)]; rfl
    · have hie : i = L.length := by omega
      have hZ := hend hie
      subst hie
      rw [List.take_length] at hc ⊢
      rw [hZ]
      conv => whnf
      refine acond_f (decide_eq_false h) ?_
      conv => whnf
      refine GhR.sel [0] rfl (GhR.of ⟨c, hc, rfl, ?_⟩)
      show [Blk.c (subs _ (ints _))] = _
      rw [subs_nums]
end Go.AK
namespace Go.AK
open Go Go.RowKit Go.Proofs
set_option linter.unusedVariables false
set_option maxRecDepth 100000
theorem mul64_spec : ACall Try.prog 63 [.i .u64 1, .i .u64 10] [] fun r H => r = .ret (.tup [.i .u64 0, .i .u64 10]) ∧ H = [] := by
  refine ACall.enter tok false Try.func63 rfl rfl rfl (AW_sound (ip := false) tok _ _ _ _ ?_)
  conv => whnf
  repeat (refine ⟨by omega, ?_⟩; conv => whnf)
  refine ⟨?_, rfl⟩
  kernel_rfl
theorem mul_spec : ACall Try.prog 56 [.i .u64 1, .i .u64 10] [] fun r H => r = .ret (.tup [.i .u64 0, .i .u64 10]) ∧ H = [] := by
  refine ACall.enter tok false Try.func56 rfl rfl rfl (AW_sound (ip := false) tok _ _ _ _ ?_)
  conv => whnf
  refine ACall.mono mul64_spec ?_; rintro r H ⟨rfl, rfl⟩
  conv => whnf
  exact ⟨rfl, rfl⟩
theorem repeat_spec : ACall Try.prog 34 [.rs (ints [1]) 0 1 1, .i .i64 10] [] fun r H => r = .ret (.sl (some (0, 0)) 1 10 10) ∧ H = [.c (ints (List.replicate 10 1))] := by
  refine ACall.enter tok false Try.func34 rfl rfl rfl (AW_sound (ip := false) tok _ _ _ _ ?_)
  conv => whnf
  have e1 : IntKind.u64.wrap ((1 : Nat) : Int) = 1 := by decide
  have e2 : IntKind.u64.wrap 10 = 10 := by decide
  have e3 : IntKind.i64.wrap 10 = 10 := by decide
  refine ACall.mono (ACall.args mul_spec (fun E vs h => by first | exact h | (rw [← e1, ← e2]; exact h))) ?_; rintro r H ⟨rfl, rfl⟩
  conv => whnf
  rw [e3]
  refine ⟨by decide, ?_⟩
  conv => whnf
  refine ⟨by decide, ?_⟩
  conv => whnf
  refine ⟨by decide, by decide, ?_⟩
  conv => whnf
  refine ALoopR.loop (n := 5) ?_
  refine ALoopR.to [7, 8] (r' := [(7, .sl (some (0, 0)) 1 10 10), (8, .i .i64 1)]) (H' := [.c (ints (List.replicate 1 1 ++ List.replicate 9 0))]) (by kernel_rfl) (by kernel_rfl) ?_
  refine ALoopR.step (ip := false) tok ?_
  conv => whnf
  refine ADraw.of tok mixed false [0, 1, 2, 3, 4, 5, 6] [7, 8, 9] (by kernel_rfl) (fun _ _ _ _ h => h) ?_
  conv => whnf
  refine ⟨by decide, ?_⟩
  conv => whnf
  refine ⟨by decide, ?_⟩
  conv => whnf
  refine ⟨by decide, ?_⟩
  conv => whnf
  refine ⟨by decide, by decide, ?_⟩
  conv => whnf
  refine ALoopR.to [7, 8] (r' := [(7, .sl (some (0, 0)) 1 10 10), (8, .i .i64 2)]) (H' := [.c (ints (List.replicate 2 1 ++ List.replicate 8 0))]) (by kernel_rfl) (by kernel_rfl) ?_
  refine ALoopR.step (ip := false) tok ?_
  conv => whnf
  refine ADraw.of tok mixed false [0, 1, 2, 3, 4, 5, 6] [7, 8, 9] (by kernel_rfl) (fun _ _ _ _ h => h) ?_
  conv => whnf
  refine ⟨by decide, ?_⟩
  conv => whnf
  refine ⟨by decide, ?_⟩
  conv => whnf
  refine ⟨by decide, ?_⟩
  conv => whnf
  refine ⟨by decide, by decide, ?_⟩
  conv => whnf
  refine ALoopR.to [7, 8] (r' := [(7, .sl (some (0, 0)) 1 10 10), (8, .i .i64 4)]) (H' := [.c (ints (List.replicate 4 1 ++ List.replicate 6 0))]) (by kernel_rfl) (by kernel_rfl) ?_
  refine ALoopR.step (ip := false) tok ?_
  conv => whnf
  refine ADraw.of tok mixed false [0, 1, 2, 3, 4, 5, 6] [7, 8, 9] (by kernel_rfl) (fun _ _ _ _ h => h) ?_
  conv => whnf
  refine ⟨by decide, ?_⟩
  conv => whnf
  refine ⟨by decide, ?_⟩
  conv => whnf
  refine ⟨by decide, ?_⟩
  conv => whnf
  refine ⟨by decide, by decide, ?_⟩
  conv => whnf
  refine ALoopR.to [7, 8] (r' := [(7, .sl (some (0, 0)) 1 10 10), (8, .i .i64 8)]) (H' := [.c (ints (List.replicate 8 1 ++ List.replicate 2 0))]) (by kernel_rfl) (by kernel_rfl) ?_
  refine ALoopR.step (ip := false) tok ?_
  conv => whnf
  refine ADraw.of tok mixed false [0, 1, 2, 3, 4, 5, 6] [7, 8, 9] (by kernel_rfl) (fun _ _ _ _ h => h) ?_
  conv => whnf
  refine ⟨by decide, ?_⟩
  conv => whnf
  refine ⟨by decide, ?_⟩
  conv => whnf
  refine ⟨by decide, ?_⟩
  conv => whnf
  refine ⟨by decide, by decide, ?_⟩
  conv => whnf
  refine ALoopR.to [7, 8] (r' := [(7, .sl (some (0, 0)) 1 10 10), (8, .i .i64 10)]) (H' := [.c (ints (List.replicate 10 1))]) (by kernel_rfl) (by kernel_rfl) ?_
  refine ALoopR.step (ip := false) tok (n := 0) ?_
  conv => whnf
  exact ⟨rfl, rfl⟩
end Go.AK
namespace Go.AK
open Go Go.RowKit Go.Proofs
set_option linter.unusedVariables false
set_option maxRecDepth 100000
theorem put_spec (n : Int) (w : Nat) (o : List Int) (c : Nat) (hc : o.length ≤ c) (h0 : 0 ≤ n) (h1 : n < 18446744073709551616) (hw : 1 ≤ w) (hw2 : w ≤ 64) (hL : o.length < 1000000) :
    ACall Try.prog 50 [.i .u64 n, .i .i64 w, .p (some (0, 0)), .p (some (1, 0))] [.c [.i .i64 0], .c [.sl (some (2, 0)) 1 o.length c], .c (ints o)] fun r H => r = .ret (.tup []) ∧
      ∃ c, (o ++ ofI n w).length ≤ c ∧ H = [.c [.i .i64 0], .c [.sl (some (3, 0)) 1 (o ++ ofI n w).length c], .dead, .c (ints (o ++ ofI n w))] := by
  refine ACall.gh ?_
  refine ACall.enter tok false Try.func50 rfl rfl rfl (AW_sound (ip := false) tok _ _ _ _ ?_)
  conv => whnf
  refine ACall.frameH [] [] rfl (args' := [.i .u64 n, .i .i64 w]) (Hc := []) rfl rfl (of_spec n w h0 h1 hw2) ?_
  rintro r H ⟨rfl, rfl⟩
  refine ⟨.inl rfl, [.c [.i .i64 0], .c [.sl (some (2, 0)) 1 o.length c], .c (ints o), .c (ints (ofI n w))], (by show [_, _, _, Blk.c (subs _ (ints _))] = _; rw [subs_nums]), ?_⟩
  conv => whnf
  refine ⟨by show 0 + o.length * 1 ≤ (ints o).length; rw [nums_length]; omega, ?_⟩
  conv => whnf
  refine ⟨by show 0 + w * 1 ≤ (ints (ofI n w)).length; rw [nums_length, ofI_length]; omega, ?_⟩
  conv => whnf
  have hz : List.take (o.length * 1) (List.drop 0 (ints o)) ++ List.take (w * 1) (List.drop 0 (ints (ofI n w))) = ints (o ++ ofI n w) := by
    rw [List.drop_zero, List.drop_zero, Nat.mul_one, Nat.mul_one, List.take_of_length_le (by rw [nums_length]; omega), List.take_of_length_le (by rw [nums_length, ofI_length]; omega), ← nums_append]
  have hone : ones (List.take (w * 1) (List.drop 0 (ints (ofI n w)))) = true := by
    rw [List.drop_zero, Nat.mul_one, List.take_of_length_le (by rw [nums_length, ofI_length]; omega)]; exact ones_nums _ _
  refine ⟨hone, by (try dsimp only); omega, by omega, fun g hg => ?_⟩
  conv => whnf
  refine ⟨by show 0 + 1 ≤ 1; omega, ?_⟩
  conv => whnf
  have hl : (o ++ ofI n w).length = o.length + w := by rw [List.length_append, ofI_length]
  refine GhR.sel [0, 1, 2, 4] rfl (GhR.of ⟨rfl, g, by rw [hl]; exact hg, ?_⟩)
  show [_, _, _, Blk.c (subs _ (_ ++ _))] = _
  rw [hz, subs_nums, hl]; rfl
def BitsK (F : Fr) (l : List Int) (r : ARes) (H : Heap) : Prop :=
  (¬F.may ∧ r = .ret (.tup [.sl none 0 0 0, .i .i64 14]) ∧ H = []) ∨ (F.may ∧ ∃ c, l.length ≤ c ∧ r = .ret (.tup [.sl (some (0, 0)) 1 l.length c, .i .i64 0]) ∧ H = [.c (ints l)])
set_option maxHeartbeats 4000000 in
theorem fbits_spec (F : Fr) (hF : F.ok) : ACall Try.prog 30 [F.av] [] (BitsK F F.bitsL) := by
  refine ACall.gh ?_
  refine ACall.enter tok false Try.func30 rfl rfl rfl (AW_sound (ip := false) tok _ _ _ _ ?_)
  have hrl := row_len' F
  conv => whnf
  refine ACall.frameH [] [] rfl (args' := [F.av]) (Hc := []) rfl rfl (arb_spec F hF) ?_
  rintro r H (⟨hm, rfl, rfl⟩ | ⟨hm, c, hc, rfl, rfl⟩)
  · refine ⟨.inl rfl, _, rfl, ?_⟩
    conv => whnf
    exact GhR.sel [] rfl (GhR.of (.inl ⟨hm, rfl, rfl⟩))
  refine ⟨.inl rfl, [.c F.cells, .c (ints F.row)], (by show [_, Blk.c (subs _ (ints _))] = _; rw [subs_nums]; rfl), ?_⟩
  conv => whnf
  refine ⟨by show 1 ≤ (1 : Nat); omega, ?_⟩
  conv => whnf
  refine ⟨by show 0 + F.row.length * 1 ≤ (ints F.row).length; rw [nums_length]; omega, ?_⟩
  conv => whnf
  have hrl2 : F.row.length ≤ 32 := by rw [hrl]; split <;> omega
  have hz : [AV.i .i64 0] ++ List.take (F.row.length * 1) (List.drop 0 (ints F.row)) = ints ([0] ++ F.row) := by
    rw [List.drop_zero, Nat.mul_one, List.take_of_length_le (by rw [nums_length]; omega)]; rfl
  have hone : ones (List.take (F.row.length * 1) (List.drop 0 (ints F.row))) = true := by
    rw [List.drop_zero, Nat.mul_one, List.take_of_length_le (by rw [nums_length]; omega)]; exact ones_nums _ _
  refine ⟨hone, by (try dsimp only); omega, by omega, fun g hg => ?_⟩
  conv => whnf
  refine ⟨by show 0 + 1 ≤ 1; omega, ?_⟩
  conv => whnf
  refine ⟨by show 0 + 1 ≤ 1; omega, ?_⟩
  conv => whnf
  have hm1 := hm.2.2.1
  have hm2 := hm.2.2.2.1
  have hoi := Fr.out_le hm
  have hol : ([0] ++ F.row).length = 1 + F.row.length := by rw [List.length_append]; rfl
  cases he : F.ext
  · conv => whnf
    have hw : IntKind.i64.wrap (1 + 4) = ((5 : Nat) : Int) := by decide
    have hwl : IntKind.u64.wrap F.len = F.len := wu64 (by omega) (by omega)
    have hh : F.headL = [0] ++ F.row ++ ofI F.len 5 := by unfold Fr.headL Fr.rw_; rw [he]; rfl
    have hput := put_spec F.len 5 ([0] ++ F.row) g (by rw [hol]; exact hg) (by omega) (by omega) (by omega) (by omega) (by rw [hol]; omega)
    rw [← hh] at hput
    refine ACall.frameH [5, 4, 3] [] rfl (args' := [.i .u64 F.len, .i .i64 (5 : Nat), .p (some (0, 0)), .p (some (1, 0))]) (Hc := [.c [.i .i64 0], .c [.sl (some (2, 0)) 1 ([0] ++ F.row).length g], .c (ints ([0] ++ F.row))])
      (by show [AV.i .u64 (IntKind.u64.wrap F.len), AV.i .i64 (IntKind.i64.wrap (1 + 4)), _, _] = _; rw [hw, hwl]; rfl) (by show [_, Blk.c [AV.sl _ 1 (1 + F.row.length) g], Blk.c (subs _ ([AV.i .i64 0] ++ List.take (F.row.length * 1) (List.drop 0 (ints F.row))))] = _; rw [hz, subs_nums, hol]; rfl) hput ?_
    rintro r H ⟨rfl, c2, hc2, rfl⟩
    refine ⟨.inl rfl, [.c F.cells, .c (ints F.row), .dead, .dead, .c [.sl (some (6, 0)) 1 F.headL.length c2], .c [.i .i64 0], .c (ints F.headL)], (by show [_, _, _, _, _, _, Blk.c (subs _ (ints _))] = _; rw [subs_nums]; rfl), ?_⟩
    conv => whnf
    cases hr : F.rtr
    · conv => whnf
      have hout : F.out = F.len.toNat := by unfold Fr.out; rw [hr]; rfl
      refine ⟨by show 0 + 4 + 8 ≤ 12; omega, ?_⟩
      conv => whnf
      refine ⟨by omega, ?_⟩
      conv => whnf
      refine ALoop.ind (ip := false) tok (fun m r H => ∃ (k c : Nat), k ≤ F.out ∧ m = F.out - k ∧ (F.headL ++ F.datL k).length ≤ c ∧
        H = [.c F.cells, .c [.i .i64 0], .c [.sl (some (3, 0)) 1 (F.headL ++ F.datL k).length c], .c (ints (F.headL ++ F.datL k))] ∧
        r = [(41, .i .i64 k), (40, .i .i64 F.out), (39, .sl (some (0, 4)) 1 F.out 8), (8, .fn (.func 50) [] [.p (some (1, 0)), .p (some (2, 0))]), (6, .p (some (2, 0))), (7, .p (some (1, 0)))]) F.out ?_ ?_
      · have hz0 : F.headL ++ F.datL 0 = F.headL := List.append_nil _
        refine Gh.regs [41, 40, 39, 8, 6, 7] (Gh.sel [0, 5, 4, 6] rfl (Gh.of ⟨0, c2, by omega, rfl, by rw [hz0]; exact hc2, ?_, ?_⟩))
        · show [_, _, _, Blk.c (subs _ (ints _))] = _
          rw [subs_nums, hz0]; rfl
        · rw [hout]; rfl
      · rintro m r H ⟨k, c3, hk, rfl, hc3, rfl, rfl⟩
        have hdl := F.dat_len (k := k) (by omega)
        have hhl := F.head_len
        have hlen : (F.headL ++ F.datL k).length ≤ 103 := by rw [List.length_append, hdl, hhl]; split <;> omega
        by_cases h : (k : Int) < F.out
        · have hk8 : k < 8 := by omega
          have hb := Fr.d_in hF k
          have hput2 := put_spec (F.d.getD k 0) 8 (F.headL ++ F.datL k) c3 hc3 (by omega) (by omega) (by omega) (by omega) (by omega)
          rw [List.append_assoc, ← F.dat_next hk8] at hput2
          conv => whnf
          refine acond_t (decide_eq_true h) ?_
          conv => whnf
          refine ⟨⟨by omega, h⟩, ?_⟩
          conv => whnf
          refine aget_at (i := 4 + k) (by omega) (F.cell hk8) ?_
          conv => whnf
          refine ACall.frameH [1, 2, 3] [] rfl (args' := [.i .u64 (F.d.getD k 0), .i .i64 (8 : Nat), .p (some (0, 0)), .p (some (1, 0))]) (Hc := [.c [.i .i64 0], .c [.sl (some (2, 0)) 1 (F.headL ++ F.datL k).length c3], .c (ints (F.headL ++ F.datL k))])
            (by show [AV.i .u64 (IntKind.u64.wrap (F.d.getD k 0)), AV.i .i64 8, _, _] = _; rw [wu64 (by omega) (by omega)]; rfl) (by show [_, _, Blk.c (subs _ (ints _))] = _; rw [subs_nums]; rfl) hput2 ?_
          rintro r H ⟨rfl, c4, hc4, rfl⟩
          refine ⟨.inl rfl, [.c F.cells, .c [.i .i64 0], .c [.sl (some (4, 0)) 1 (F.headL ++ F.datL (k + 1)).length c4], .dead, .c (ints (F.headL ++ F.datL (k + 1)))], (by show [_, _, _, _, Blk.c (subs _ (ints _))] = _; rw [subs_nums]; rfl), ?_⟩
          conv => whnf
          refine Gh.regs [41, 40, 39, 8, 6, 7] (Gh.sel [0, 1, 2, 4] rfl (Gh.of ⟨F.out - (k + 1), by omega, k + 1, c4, by omega, rfl, hc4, ?_, ?_⟩))
          · show [_, _, _, Blk.c (subs _ (ints _))] = _
            rw [subs_nums]; rfl
          · rw [w64 (by omega) (by omega)]; rfl
        · have hke : k = F.out := by omega
          conv => whnf
          refine acond_f (decide_eq_false h) ?_
          conv => whnf
          refine GhR.sel [3] rfl (GhR.of (.inr ⟨hm, c3, ?_, ?_, ?_⟩))
          · unfold Fr.bitsL; rw [← hke]; exact hc3
          · unfold Fr.bitsL; rw [← hke]; rfl
          · show [Blk.c (subs _ (ints _))] = _
            unfold Fr.bitsL; rw [subs_nums, hke]
    · conv => whnf
      have hout : F.out = 0 := by unfold Fr.out; rw [hr]; rfl
      have hbl : F.bitsL = F.headL := by unfold Fr.bitsL; rw [hout]; exact List.append_nil _
      refine GhR.sel [6] rfl (GhR.of (.inr ⟨hm, c2, ?_, ?_, ?_⟩))
      · rw [hbl]; exact hc2
      · rw [hbl]; rfl
      · show [Blk.c (subs _ (ints _))] = _
        rw [hbl, subs_nums]
  · conv => whnf
    have hw : IntKind.i64.wrap (2 + 4) = ((6 : Nat) : Int) := by decide
    have hwl : IntKind.u64.wrap F.len = F.len := wu64 (by omega) (by omega)
    have hh : F.headL = [0] ++ F.row ++ ofI F.len 6 := by unfold Fr.headL Fr.rw_; rw [he]; rfl
    have hput := put_spec F.len 6 ([0] ++ F.row) g (by rw [hol]; exact hg) (by omega) (by omega) (by omega) (by omega) (by rw [hol]; omega)
    rw [← hh] at hput
    refine ACall.frameH [5, 4, 3] [] rfl (args' := [.i .u64 F.len, .i .i64 (6 : Nat), .p (some (0, 0)), .p (some (1, 0))]) (Hc := [.c [.i .i64 0], .c [.sl (some (2, 0)) 1 ([0] ++ F.row).length g], .c (ints ([0] ++ F.row))])
      (by show [AV.i .u64 (IntKind.u64.wrap F.len), AV.i .i64 (IntKind.i64.wrap (2 + 4)), _, _] = _; rw [hw, hwl]; rfl) (by show [_, Blk.c [AV.sl _ 1 (1 + F.row.length) g], Blk.c (subs _ ([AV.i .i64 0] ++ List.take (F.row.length * 1) (List.drop 0 (ints F.row))))] = _; rw [hz, subs_nums, hol]; rfl) hput ?_
    rintro r H ⟨rfl, c2, hc2, rfl⟩
    refine ⟨.inl rfl, [.c F.cells, .c (ints F.row), .dead, .dead, .c [.sl (some (6, 0)) 1 F.headL.length c2], .c [.i .i64 0], .c (ints F.headL)], (by show [_, _, _, _, _, _, Blk.c (subs _ (ints _))] = _; rw [subs_nums]; rfl), ?_⟩
    conv => whnf
    cases hr : F.rtr
    · conv => whnf
      have hout : F.out = F.len.toNat := by unfold Fr.out; rw [hr]; rfl
      refine ⟨by show 0 + 4 + 8 ≤ 12; omega, ?_⟩
      conv => whnf
      refine ⟨by omega, ?_⟩
      conv => whnf
      refine ALoop.ind (ip := false) tok (fun m r H => ∃ (k c : Nat), k ≤ F.out ∧ m = F.out - k ∧ (F.headL ++ F.datL k).length ≤ c ∧
        H = [.c F.cells, .c [.i .i64 0], .c [.sl (some (3, 0)) 1 (F.headL ++ F.datL k).length c], .c (ints (F.headL ++ F.datL k))] ∧
        r = [(41, .i .i64 k), (40, .i .i64 F.out), (39, .sl (some (0, 4)) 1 F.out 8), (8, .fn (.func 50) [] [.p (some (1, 0)), .p (some (2, 0))]), (6, .p (some (2, 0))), (7, .p (some (1, 0)))]) F.out ?_ ?_
      · have hz0 : F.headL ++ F.datL 0 = F.headL := List.append_nil _
        refine Gh.regs [41, 40, 39, 8, 6, 7] (Gh.sel [0, 5, 4, 6] rfl (Gh.of ⟨0, c2, by omega, rfl, by rw [hz0]; exact hc2, ?_, ?_⟩))
        · show [_, _, _, Blk.c (subs _ (ints _))] = _
          rw [subs_nums, hz0]; rfl
        · rw [hout]; rfl
      · rintro m r H ⟨k, c3, hk, rfl, hc3, rfl, rfl⟩
        have hdl := F.dat_len (k := k) (by omega)
        have hhl := F.head_len
        have hlen : (F.headL ++ F.datL k).length ≤ 103 := by rw [List.length_append, hdl, hhl]; split <;> omega
        by_cases h : (k : Int) < F.out
        · have hk8 : k < 8 := by omega
          have hb := Fr.d_in hF k
          have hput2 := put_spec (F.d.getD k 0) 8 (F.headL ++ F.datL k) c3 hc3 (by omega) (by omega) (by omega) (by omega) (by omega)
          rw [List.append_assoc, ← F.dat_next hk8] at hput2
          conv => whnf
          refine acond_t (decide_eq_true h) ?_
          conv => whnf
          refine ⟨⟨by omega, h⟩, ?_⟩
          conv => whnf
          refine aget_at (i := 4 + k) (by omega) (F.cell hk8) ?_
          conv => whnf
          refine ACall.frameH [1, 2, 3] [] rfl (args' := [.i .u64 (F.d.getD k 0), .i .i64 (8 : Nat), .p (some (0, 0)), .p (some (1, 0))]) (Hc := [.c [.i .i64 0], .c [.sl (some (2, 0)) 1 (F.headL ++ F.datL k).length c3], .c (ints (F.headL ++ F.datL k))])
            (by show [AV.i .u64 (IntKind.u64.wrap (F.d.getD k 0)), AV.i .i64 8, _, _] = _; rw [wu64 (by omega) (by omega)]; rfl) (by show [_, _, Blk.c (subs _ (ints _))] = _; rw [subs_nums]; rfl) hput2 ?_
          rintro r H ⟨rfl, c4, hc4, rfl⟩
          refine ⟨.inl rfl, [.c F.cells, .c [.i .i64 0], .c [.sl (some (4, 0)) 1 (F.headL ++ F.datL (k + 1)).length c4], .dead, .c (ints (F.headL ++ F.datL (k + 1)))], (by show [_, _, _, _, Blk.c (subs _ (ints _))] = _; rw [subs_nums]; rfl), ?_⟩
          conv => whnf
          refine Gh.regs [41, 40, 39, 8, 6, 7] (Gh.sel [0, 1, 2, 4] rfl (Gh.of ⟨F.out - (k + 1), by omega, k + 1, c4, by omega, rfl, hc4, ?_, ?_⟩))
          · show [_, _, _, Blk.c (subs _ (ints _))] = _
            rw [subs_nums]; rfl
          · rw [w64 (by omega) (by omega)]; rfl
        · have hke : k = F.out := by omega
          conv => whnf
          refine acond_f (decide_eq_false h) ?_
          conv => whnf
          refine GhR.sel [3] rfl (GhR.of (.inr ⟨hm, c3, ?_, ?_, ?_⟩))
          · unfold Fr.bitsL; rw [← hke]; exact hc3
          · unfold Fr.bitsL; rw [← hke]; rfl
          · show [Blk.c (subs _ (ints _))] = _
            unfold Fr.bitsL; rw [subs_nums, hke]
    · conv => whnf
      have hout : F.out = 0 := by unfold Fr.out; rw [hr]; rfl
      have hbl : F.bitsL = F.headL := by unfold Fr.bitsL; rw [hout]; exact List.append_nil _
      refine GhR.sel [6] rfl (GhR.of (.inr ⟨hm, c2, ?_, ?_, ?_⟩))
      · rw [hbl]; exact hc2
      · rw [hbl]; rfl
      · show [Blk.c (subs _ (ints _))] = _
        rw [hbl, subs_nums]
set_option maxHeartbeats 4000000 in
theorem fall_spec (F : Fr) (hF : F.ok) : ACall Try.prog 15 [F.av] [] (BitsK F F.allL) := by
  refine ACall.gh ?_
  refine ACall.enter tok false Try.func15 rfl rfl rfl (AW_sound (ip := false) tok _ _ _ _ ?_)
  conv => whnf
  refine ACall.frameH [] [] rfl (args' := [F.av]) (Hc := []) rfl rfl (fbits_spec F hF) ?_
  rintro r H (⟨hm, rfl, rfl⟩ | ⟨hm, c, hc, rfl, rfl⟩)
  · refine ⟨.inl rfl, _, rfl, ?_⟩
    conv => whnf
    exact GhR.sel [] rfl (GhR.of (.inl ⟨hm, rfl, rfl⟩))
  have hbl := Fr.bits_len hm
  have hol := Fr.out_le hm
  have hble : F.bitsL.length ≤ 103 := by rw [hbl]; split <;> omega
  refine ⟨.inl rfl, [.c F.cells, .c (ints F.bitsL)], (by show [_, Blk.c (subs _ (ints _))] = _; rw [subs_nums]; rfl), ?_⟩
  conv => whnf
  refine ACall.frameH [] [1] rfl (args' := [.rs (ints F.bitsL) 0 1 F.bitsL.length]) (Hc := []) (by show [AV.rs (subs _ (ints _)) _ _ _] = _; rw [subs_nums]) rfl (csum_spec F.bitsL (Fr.bits_lv hm) (by omega)) ?_
  rintro r H ⟨rfl, rfl⟩
  refine ⟨.inr ⟨rfl, rfl⟩, [.c F.cells, .c (ints F.bitsL)], rfl, ?_⟩
  conv => whnf
  refine ACall.frameH [] [] rfl (args' := [.i .i64 (crcN F.bitsL : Nat)]) (Hc := []) rfl rfl (cbits_spec _ (crcN_lt _)) ?_
  rintro r H ⟨rfl, rfl⟩
  refine ⟨.inl rfl, [.c F.cells, .c (ints F.bitsL), .c (ints F.sumL)], (by show [_, _, Blk.c (subs _ (ints _))] = _; rw [subs_nums]; rfl), ?_⟩
  conv => whnf
  refine ACall.frameH [] [3] rfl (args' := [.rs (ints [1]) 0 1 1, .i .i64 10]) (Hc := []) rfl rfl repeat_spec ?_
  rintro r H ⟨rfl, rfl⟩
  refine ⟨.inr ⟨rfl, rfl⟩, [.c F.cells, .c (ints F.bitsL), .c (ints F.sumL), .c [.i .i64 1], .c (ints (List.replicate 10 1))], rfl, ?_⟩
  conv => whnf
  have hfl : F.allL = [F.bitsL, F.sumL, List.replicate 10 1].flatten := by unfold Fr.allL Fr.coreL; simp
  have hal := Fr.all_len hm
  have hale : F.allL.length ≤ 200 := by rw [hal]; split <;> omega
  have hal0 : 0 < F.allL.length := by rw [hal]; split <;> omega
  have hconc := concat_spec [F.bitsL, F.sumL, List.replicate 10 1] (by rw [← hfl]; exact hal0) (by rw [← hfl]; omega) (by show 3 ≤ _; omega)
  rw [← hfl] at hconc
  refine ACall.frame [] [5, 1, 2, 4] rfl (args' := [.rs (rowsAV [F.bitsL, F.sumL, List.replicate 10 1]) 0 1 3]) (Hc := []) ?_ rfl hconc ?_
  · simp only [rowsAV, rowAV, List.map_cons, List.map_nil, F.sum_len, List.length_replicate]
    show [AV.rs [.rs (subs _ (ints F.bitsL)) 0 1 F.bitsL.length, .rs (subs _ (ints F.sumL)) 0 1 15, .rs (subs _ (ints (List.replicate 10 1))) 0 1 10] 0 1 3] = _
    simp only [subs_nums]
  rintro r H ⟨c2, hc2, rfl, rfl⟩
  refine ⟨.inr ⟨rfl, by simp [nroH, nroB, nros_nums]⟩, ?_⟩
  conv => whnf
  refine GhR.sel [6] rfl (GhR.of (.inr ⟨hm, c2, hc2, rfl, ?_⟩))
  show [Blk.c (subs _ (subs _ (ints _)))] = _
  rw [subs_nums, subs_nums]
end Go.AK
namespace Go.AK
open Go Go.RowKit Go.Proofs
set_option linter.unusedVariables false
set_option maxRecDepth 100000
theorem count_spec (L : List Int) (hl : isLv L) (hL : L.length < 100000) : ACall Try.prog 19 [.rs (ints L) 0 1 L.length] [] fun r H => r = .ret (.i .i64 (((stuffed L).length : Int) - L.length)) ∧ H = [] := by
  refine ACall.gh ?_
  refine ACall.enter tok false Try.func19 rfl rfl rfl (AW_sound (ip := false) tok _ _ _ _ ?_)
  have h1 := stuffed_length L
  conv => whnf
  refine ACall.mono (add_spec L hl hL) ?_; rintro r H ⟨c, hc, rfl, rfl⟩
  conv => whnf
  refine GhR.sel [] rfl (GhR.of ⟨?_, rfl⟩)
  rw [w64 (by omega) (by omega), if_neg (by omega)]
  rfl
theorem most_spec (n : Int) (h0 : 1 ≤ n) (h1 : n < 1000000) : ACall Try.prog 35 [.i .i64 n] [] fun r H => r = .ret (.tup [.i .i64 ((n - 1) / 4), .i .i64 0]) ∧ H = [] := by
  refine ACall.enter tok false Try.func35 rfl rfl rfl (AW_sound (ip := false) tok _ _ _ _ ?_)
  conv => whnf
  refine acond_f (decide_eq_false (by omega)) ?_
  conv => whnf
  refine ⟨by omega, ?_⟩
  conv => whnf
  refine ⟨?_, rfl⟩
  rw [w64 (x := n - 1) (by omega) (by omega), if_neg (by omega), Int.tdiv_eq_ediv_of_nonneg (by omega), w64 (by omega) (by omega)]
def longL (n : Int) (ext : Bool) : Int := (if ext = true then 54 else 34) + 8 * n + ((if ext = true then 54 else 34) + 8 * n - 1) / 4 + 10
theorem longest_spec (n : Int) (ext : Bool) (h0 : 0 ≤ n) (h1 : n ≤ 8) : ACall Try.prog 18 [.i .i64 n, .b ext] [] fun r H => r = .ret (.tup [.i .i64 (longL n ext), .i .i64 0]) ∧ H = [] := by
  refine ACall.enter tok false Try.func18 rfl rfl rfl (AW_sound (ip := false) tok _ _ _ _ ?_)
  have hd : decide (n < 0) = false := decide_eq_false (by omega)
  have w1 : IntKind.i64.wrap (34 + IntKind.i64.wrap (8 * n)) = 34 + 8 * n := by rw [w64 (x := 8 * n) (by omega) (by omega), w64 (by omega) (by omega)]
  have w2 : IntKind.i64.wrap (54 + IntKind.i64.wrap (8 * n)) = 54 + 8 * n := by rw [w64 (x := 8 * n) (by omega) (by omega), w64 (by omega) (by omega)]
  conv => whnf
  repeat (refine acond_f hd ?_; conv => whnf)
  refine acond_f (decide_eq_false (by omega)) ?_
  conv => whnf
  cases ext
  · conv => whnf
    rw [w1]
    refine ACall.mono (most_spec (34 + 8 * n) (by omega) (by omega)) ?_; rintro r H ⟨rfl, rfl⟩
    conv => whnf
    refine ⟨?_, rfl⟩
    unfold longL
    rw [w64 (x := 34 + 8 * n + _) (by omega) (by omega), w64 (by omega) (by omega)]
    rfl
  · conv => whnf
    rw [w2]
    refine ACall.mono (most_spec (54 + 8 * n) (by omega) (by omega)) ?_; rintro r H ⟨rfl, rfl⟩
    conv => whnf
    refine ⟨?_, rfl⟩
    unfold longL
    rw [w64 (x := 54 + 8 * n + _) (by omega) (by omega), w64 (by omega) (by omega)]
    rfl
theorem Fr.enc_len (F : Fr) (ack : Bool) : (F.encL ack).length = (stuffed F.coreL).length + 10 := by
  unfold Fr.encL; rw [List.length_append, List.length_append, List.length_replicate]; rfl
theorem all_split {F : Fr} (h : F.may) : F.allL.take (F.allL.length - 10) = F.coreL ∧ F.allL.drop (F.allL.length - 10) = List.replicate 10 1 ∧ F.allL.length = F.coreL.length + 10 := by
  have hl : F.allL.length = F.coreL.length + 10 := by unfold Fr.allL; rw [List.length_append, List.length_replicate]
  refine ⟨?_, ?_, hl⟩
  · rw [hl, Nat.add_sub_cancel]; unfold Fr.allL; exact List.take_left
  · rw [hl, Nat.add_sub_cancel]; unfold Fr.allL; exact List.drop_left
set_option maxHeartbeats 4000000 in
theorem encode_spec (F : Fr) (hF : F.ok) (ack : Bool) : ACall Try.prog 12 [F.av, .b ack] [] (BitsK F (F.encL ack)) := by
  refine ACall.gh ?_
  refine ACall.enter tok false Try.func12 rfl rfl rfl (AW_sound (ip := false) tok _ _ _ _ ?_)
  conv => whnf
  refine ACall.frameH [] [] rfl (args' := [F.av]) (Hc := []) rfl rfl (fall_spec F hF) ?_
  rintro r H (⟨hm, rfl, rfl⟩ | ⟨hm, c, hc, rfl, rfl⟩)
  · refine ⟨.inl rfl, _, rfl, ?_⟩
    conv => whnf
    exact GhR.sel [] rfl (GhR.of (.inl ⟨hm, rfl, rfl⟩))
  obtain ⟨e1, e2, e3⟩ := all_split hm
  have hcl := Fr.core_len hm
  have hol := Fr.out_le hm
  have hcle : F.coreL.length ≤ 118 := by rw [hcl]; split <;> omega
  have hst := stuffed_length F.coreL
  refine ⟨.inl rfl, [.c F.cells, .c (ints F.allL)], (by show [_, Blk.c (subs _ (ints _))] = _; rw [subs_nums]; rfl), ?_⟩
  conv => whnf
  have hw : IntKind.i64.wrap (((F.allL.length : Nat) : Int) - 10) = ((F.coreL.length : Nat) : Int) := by rw [w64 (by omega) (by omega)]; omega
  rw [hw]
  refine ADraw.of tok mixed false [0, 1, 2, 4, 5, 6] [3, 7, 8] (by kernel_rfl) (fun _ _ _ _ h => h) ?_
  conv => whnf
  refine ⟨by omega, ?_⟩
  conv => whnf
  refine ⟨by omega, ?_⟩
  conv => whnf
  have hcut : cut F.allL 0 F.coreL.length = F.coreL := by unfold cut; rw [List.drop_zero, show F.coreL.length = F.allL.length - 10 from by omega]; exact e1
  have hadd := add_spec (cut F.allL 0 F.coreL.length) (by rw [hcut]; exact Fr.core_lv hm) (by rw [hcut]; omega)
  refine ACall.frameH [] [1] rfl (args' := [.rs (ints F.allL) 0 1 F.coreL.length]) (Hc := []) (by show [AV.rs (subs _ (ints _)) _ _ _] = _; rw [subs_nums]; rfl) rfl (ACall.args hadd (VLe.cut (a := 0) (b := F.coreL.length) (by omega) (by omega) rfl rfl VLe.nil)) ?_
  rw [hcut]
  rintro r H ⟨c2, hc2, rfl, rfl⟩
  refine ⟨.inr ⟨rfl, by simp [nroH, nroB, nros_nums]⟩, [.c F.cells, .c (ints F.allL), .c (ints (stuffed F.coreL))], (by show [_, _, Blk.c (subs _ (ints _))] = _; rw [subs_nums]), ?_⟩
  conv => whnf
  refine ⟨by show 0 + (stuffed F.coreL).length * 1 ≤ (ints _).length; rw [nums_length]; omega, ?_⟩
  conv => whnf
  refine ⟨by show 0 + (F.coreL.length : Int).toNat * 1 + (F.allL.length - (F.coreL.length : Int).toNat) * 1 ≤ (ints _).length; rw [nums_length]; omega, ?_⟩
  conv => whnf
  have hten : F.allL.length - (F.coreL.length : Int).toNat = 10 := by omega
  have hnews : List.take ((F.allL.length - (F.coreL.length : Int).toNat) * 1) (List.drop (0 + (F.coreL.length : Int).toNat * 1) (ints F.allL)) = ints (List.replicate 10 1) := by
    rw [hten, show 0 + (F.coreL.length : Int).toNat * 1 = F.allL.length - 10 from by omega, nums_drop, e2]; rfl
  have holds : List.take ((stuffed F.coreL).length * 1) (List.drop 0 (ints (stuffed F.coreL))) = ints (stuffed F.coreL) := by
    rw [List.drop_zero, Nat.mul_one, List.take_of_length_le (by rw [nums_length]; omega)]
  have hsw : (F.allL.length - (F.coreL.length : Int).toNat) = 10 := hten
  have hsle : (stuffed F.coreL).length ≤ 200 := by omega
  refine ⟨by show ones (List.take ((F.allL.length - (F.coreL.length : Int).toNat) * 1) (List.drop (0 + (F.coreL.length : Int).toNat * 1) (ints F.allL))) = true; rw [hnews]; exact ones_nums _ _, by (try dsimp only); omega, by omega, fun g hg => ?_⟩
  conv => whnf
  have hblk : List.take ((stuffed F.coreL).length * 1) (List.drop 0 (ints (stuffed F.coreL))) ++ List.take ((F.allL.length - (F.coreL.length : Int).toNat) * 1) (List.drop (0 + (F.coreL.length : Int).toNat * 1) (ints F.allL)) = ints (stuffed F.coreL ++ List.replicate 10 1) := by
    rw [holds, hnews, ← nums_append]
  have hel : (F.encL ack).length = (stuffed F.coreL).length + (F.allL.length - (F.coreL.length : Int).toNat) := by rw [F.enc_len, hten]
  cases ack
  · conv => whnf
    have hen : F.encL false = stuffed F.coreL ++ List.replicate 10 1 := rfl
    refine GhR.sel [3] rfl (GhR.of (.inr ⟨hm, g, by rw [hel]; exact hg, ?_, ?_⟩))
    · rw [hel]; rfl
    · show [Blk.c (subs _ (_ ++ List.take ((F.allL.length - (F.coreL.length : Int).toNat) * 1) (List.drop (0 + (F.coreL.length : Int).toNat * 1) (ints F.allL))))] = _
      rw [hblk, subs_nums, hen]
  · conv => whnf
    have hix : IntKind.i64.wrap (IntKind.i64.wrap ((((stuffed F.coreL).length + (F.allL.length - (F.coreL.length : Int).toNat) : Nat) : Int) - 10) + 1) = (((stuffed F.coreL).length + 1 : Nat) : Int) := by
      rw [hten, w64 (x := (((stuffed F.coreL).length + 10 : Nat) : Int) - 10) (by omega) (by omega), w64 (by omega) (by omega)]; omega
    have hen : F.encL true = (stuffed F.coreL ++ List.replicate 10 1).set ((stuffed F.coreL).length + 1) 0 := by
      unfold Fr.encL
      rw [List.set_append_right _ _ (by omega), show (stuffed F.coreL).length + 1 - (stuffed F.coreL).length = 1 from by omega]
      rfl
    refine ⟨⟨by rw [hix]; omega, by rw [hix, hten]; omega⟩, ?_⟩
    conv => whnf
    refine ⟨by show 0 + (IntKind.i64.wrap (IntKind.i64.wrap ((((stuffed F.coreL).length + (F.allL.length - (F.coreL.length : Int).toNat) : Nat) : Int) - 10) + 1)).toNat * 1 + 1 ≤ List.length (_ ++ List.take ((F.allL.length - (F.coreL.length : Int).toNat) * 1) (List.drop (0 + (F.coreL.length : Int).toNat * 1) (ints F.allL))); rw [hblk, nums_length, List.length_append, List.length_replicate, hix]; omega, ?_⟩
    conv => whnf
    refine GhR.sel [3] rfl (GhR.of (.inr ⟨hm, g, by rw [hel]; exact hg, ?_, ?_⟩))
    · rw [hel]; rfl
    · show [Blk.c (subs _ (setCells (_ ++ List.take ((F.allL.length - (F.coreL.length : Int).toNat) * 1) (List.drop (0 + (F.coreL.length : Int).toNat * 1) (ints F.allL))) (0 + (IntKind.i64.wrap (IntKind.i64.wrap ((((stuffed F.coreL).length + (F.allL.length - (F.coreL.length : Int).toNat) : Nat) : Int) - 10) + 1)).toNat * 1) (AV.i .i64 0).cells))] = _
      rw [hblk, hix, setCells_nums, subs_nums, hen, show 0 + (((stuffed F.coreL).length + 1 : Nat) : Int).toNat * 1 = (stuffed F.coreL).length + 1 from by omega]
theorem length_spec (F : Fr) (hF : F.ok) : ACall Try.prog 14 [F.av] [] fun r H => H = [] ∧ ((¬F.may ∧ r = .ret (.tup [.i .i64 0, .i .i64 14])) ∨ (F.may ∧ r = .ret (.tup [.i .i64 ((stuffed F.coreL).length + 10 : Nat), .i .i64 0]))) := by
  refine ACall.gh ?_
  refine ACall.enter tok false Try.func14 rfl rfl rfl (AW_sound (ip := false) tok _ _ _ _ ?_)
  conv => whnf
  refine ACall.frameH [] [] rfl (args' := [F.av]) (Hc := []) rfl rfl (fall_spec F hF) ?_
  rintro r H (⟨hm, rfl, rfl⟩ | ⟨hm, c, hc, rfl, rfl⟩)
  · refine ⟨.inl rfl, _, rfl, ?_⟩
    conv => whnf
    exact GhR.sel [] rfl (GhR.of ⟨rfl, .inl ⟨hm, rfl⟩⟩)
  obtain ⟨e1, e2, e3⟩ := all_split hm
  have hcl := Fr.core_len hm
  have hol := Fr.out_le hm
  have hcle : F.coreL.length ≤ 118 := by rw [hcl]; split <;> omega
  have hst := stuffed_length F.coreL
  refine ⟨.inl rfl, [.c F.cells, .c (ints F.allL)], (by show [_, Blk.c (subs _ (ints _))] = _; rw [subs_nums]; rfl), ?_⟩
  conv => whnf
  have hw : IntKind.i64.wrap (((F.allL.length : Nat) : Int) - 10) = ((F.coreL.length : Nat) : Int) := by rw [w64 (by omega) (by omega)]; omega
  refine ⟨by rw [hw]; omega, ?_⟩
  conv => whnf
  have hcut : cut F.allL 0 F.coreL.length = F.coreL := by unfold cut; rw [List.drop_zero, show F.coreL.length = F.allL.length - 10 from by omega]; exact e1
  have hcnt := count_spec (cut F.allL 0 F.coreL.length) (by rw [hcut]; exact Fr.core_lv hm) (by rw [hcut]; omega)
  refine ACall.frameH [] [1] rfl (args' := [.rs (ints F.allL) 0 1 F.coreL.length]) (Hc := []) (by show [AV.rs (subs _ (ints _)) _ _ (Int.toNat (IntKind.i64.wrap (((F.allL.length : Nat) : Int) - 10)) - 0)] = _; rw [subs_nums, hw]; rfl) rfl (ACall.args hcnt (VLe.cut (a := 0) (b := F.coreL.length) (by omega) (by omega) rfl rfl VLe.nil)) ?_
  rw [hcut]
  rintro r H ⟨rfl, rfl⟩
  refine ⟨.inr ⟨rfl, rfl⟩, _, rfl, ?_⟩
  conv => whnf
  refine GhR.sel [] rfl (GhR.of ⟨rfl, .inr ⟨hm, ?_⟩⟩)
  rw [show IntKind.i64.wrap (((F.allL.length : Nat) : Int) + (((stuffed F.coreL).length : Int) - F.coreL.length)) = (((stuffed F.coreL).length + 10 : Nat) : Int) from by rw [w64 (by omega) (by omega)]; omega]
  rfl
end Go.AK
/- The frame of a frame's levels is that frame: in plain Lean. -/
namespace Go.AK
open Go Go.RowKit
set_option linter.unusedVariables false
theorem cut_mid {X Y Z : List Int} {a b : Nat} (hx : X.length = a) (hy : a + Y.length = b) : cut (X ++ (Y ++ Z)) a b = Y := by
  unfold cut
  rw [← List.append_assoc, List.take_append_of_le_length (by rw [List.length_append]; omega), List.take_of_length_le (by rw [List.length_append]; omega), List.drop_append_of_le_length (by omega), List.drop_of_length_le (by omega), List.nil_append]
theorem gd_mid {X Z : List Int} {y : Int} {a : Nat} (hx : X.length = a) : (X ++ y :: Z).getD a 0 = y := by
  subst hx
  rw [List.getD_eq_getElem?_getD, List.getElem?_append_right (Nat.le_refl _), Nat.sub_self]; rfl
section
variable {F : Fr}
theorem head_ext (c : F.ext = true) (R : List Int) : F.headL ++ R = [0] ++ (ofI (F.id / 2 ^ 18) 11 ++ (1 :: 1 :: (ofI F.id 18 ++ (F.rt :: (ofI (F.len / 2 ^ 4) 2 ++ (ofI F.len 4 ++ R)))))) := by
  unfold Fr.headL Fr.row Fr.rw_
  rw [if_pos c, if_pos c, show (6 : Nat) = 2 + 4 from rfl, ofI_append]
  simp [List.append_assoc]
theorem head_std (c : F.ext = false) (R : List Int) : F.headL ++ R = [0] ++ (ofI F.id 11 ++ (F.rt :: 0 :: (ofI (F.len / 2 ^ 4) 1 ++ (ofI F.len 4 ++ R)))) := by
  unfold Fr.headL Fr.row Fr.rw_
  rw [if_neg (by rw [c]; decide), if_neg (by rw [c]; decide), show (5 : Nat) = 1 + 4 from rfl, ofI_append]
  simp [List.append_assoc]
theorem head_0 (R : List Int) : (F.headL ++ R).getD 0 0 = 0 := rfl
theorem head_13 (R : List Int) : (F.headL ++ R).getD 13 0 = if F.ext = true then 1 else 0 := by
  cases c : F.ext
  · rw [head_std c, ← List.append_assoc, show ∀ X Z : List Int, ∀ y z : Int, X ++ y :: z :: Z = (X ++ [y]) ++ z :: Z from fun X Z y z => by simp]
    exact gd_mid (by simp [ofI_length])
  · rw [head_ext c, ← List.append_assoc, show ∀ X Z : List Int, ∀ y z : Int, X ++ y :: z :: Z = (X ++ [y]) ++ z :: Z from fun X Z y z => by simp]
    exact gd_mid (by simp [ofI_length])
theorem head_ext' (R : List Int) : extL (F.headL ++ R) = F.ext := by
  unfold extL
  rw [head_13]
  cases F.ext <;> rfl
theorem head_at (R : List Int) : dataAt (F.headL ++ R) = F.headL.length := by
  unfold dataAt
  rw [head_ext', F.head_len]
theorem head_whole (R : List Int) : whole (F.headL ++ R) = true := by
  refine decide_eq_true ⟨?_, ?_⟩
  · rw [List.length_append, F.head_len]; split <;> omega
  · rw [head_at, List.length_append]; omega
theorem head_rtr (R : List Int) : rtrL (F.headL ++ R) = F.rtr := by
  unfold rtrL
  rw [head_ext']
  have hrt : ∀ b : Bool, decide ((if b = true then (1 : Int) else 0) = 1) = b := fun b => by cases b <;> rfl
  cases c : F.ext
  · rw [if_neg (by decide), head_std c, ← List.append_assoc, gd_mid (by simp [ofI_length])]
    exact hrt F.rtr
  · rw [if_pos rfl, head_ext c]
    rw [show ∀ (A B : List Int) (y z : Int) (C : List Int), [0] ++ (A ++ (y :: z :: (B ++ C))) = ([0] ++ A ++ [y, z] ++ B) ++ C from fun A B y z C => by simp, gd_mid (by simp [ofI_length])]
    exact hrt F.rtr
theorem head_len4 (hm : F.may) (R : List Int) : sizeL (F.headL ++ R) = F.len.toNat := by
  have h1 := hm.2.2.1
  have h2 := hm.2.2.2.1
  have h4 : (2 : Int) ^ 4 = 16 := by decide
  unfold sizeL
  rw [head_at]
  have hc : cut (F.headL ++ R) (F.headL.length - 4) F.headL.length = ofI F.len 4 := by
    rw [F.head_len]
    cases c : F.ext
    · rw [head_std c]
      rw [show ∀ (A B D : List Int) (y z : Int), [0] ++ (A ++ (y :: z :: (B ++ (D ++ R)))) = ([0] ++ A ++ [y, z] ++ B) ++ (D ++ R) from fun A B D y z => by simp]
      exact cut_mid (by simp [ofI_length]) (by simp [ofI_length])
    · rw [head_ext c]
      rw [show ∀ (A B C D : List Int) (y z w : Int), [0] ++ (A ++ (y :: z :: (B ++ (w :: (C ++ (D ++ R)))))) = ([0] ++ A ++ [y, z] ++ B ++ [w] ++ C) ++ (D ++ R) from fun A B C D y z w => by simp]
      exact cut_mid (by simp [ofI_length]) (by simp [ofI_length])
  rw [hc, valI_ofI, h4, Int.emod_eq_of_lt (by omega) (by omega)]
  omega
theorem head_id (hm : F.may) (R : List Int) : idL (F.headL ++ R) = F.id := by
  have h1 := hm.1
  have h2 := hm.2.1
  have h11 : (2 : Int) ^ 11 = 2048 := by decide
  have h18 : (2 : Int) ^ 18 = 262144 := by decide
  unfold idL
  rw [head_ext']
  cases c : F.ext
  · rw [c] at h2
    simp only [Bool.false_eq_true, if_false] at h2 ⊢
    have e1 : cut (F.headL ++ R) 1 12 = ofI F.id 11 := by rw [head_std c]; exact cut_mid rfl (by simp [ofI_length])
    rw [e1, valI_ofI, h11, Int.emod_eq_of_lt (by omega) (by omega)]
  · rw [c] at h2
    simp only [if_true] at h2 ⊢
    have e1 : cut (F.headL ++ R) 1 12 = ofI (F.id / 2 ^ 18) 11 := by rw [head_ext c]; exact cut_mid rfl (by simp [ofI_length])
    have e2 : cut (F.headL ++ R) 14 32 = ofI F.id 18 := by
      rw [head_ext c, show ∀ (A B C : List Int) (y z : Int), [0] ++ (A ++ (y :: z :: (B ++ C))) = ([0] ++ A ++ [y, z]) ++ (B ++ C) from fun A B C y z => by simp]
      exact cut_mid (by simp [ofI_length]) (by simp [ofI_length])
    rw [e1, e2, valI_ofI, valI_ofI, h18, h11, Int.emod_eq_of_lt (a := F.id / 262144) (by omega) (by omega)]
    omega
theorem head_nB (hm : F.may) (R : List Int) : nB (F.headL ++ R) = F.out := by
  unfold nB Fr.out
  rw [head_rtr, head_len4 hm]
theorem head_ahead (hm : F.may) (R : List Int) : aheadN (F.headL ++ R) = F.bitsL.length := by
  rw [aheadN_nB, head_nB hm, head_at, Fr.bits_len hm, F.head_len]
theorem dat_cut (hm : F.may) (R : List Int) {j : Nat} (hj : j < F.out) : byteL (F.headL ++ (F.datL F.out ++ R)) j = F.d.getD j 0 % 256 := by
  have ho := Fr.out_le hm
  have h8 : (2 : Int) ^ 8 = 256 := by decide
  unfold byteL
  rw [head_at]
  have hs : ∀ n, j < n → n ≤ 8 → ∃ S, F.datL n = F.datL j ++ (ofI (F.d.getD j 0) 8 ++ S) := by
    intro n
    induction n with
    | zero => intro h _; omega
    | succ n ih =>
      intro h1 h2
      rw [F.dat_next (by omega)]
      by_cases e : j = n
      · subst e; exact ⟨[], by simp⟩
      · obtain ⟨S, hS⟩ := ih (by omega) (by omega)
        rw [hS]
        exact ⟨S ++ ofI (F.d.getD n 0) 8, by simp⟩
  obtain ⟨S, hS⟩ := hs F.out hj ho
  rw [hS, show ∀ A B C D : List Int, F.headL ++ (A ++ (B ++ C) ++ D) = (F.headL ++ A) ++ (B ++ (C ++ D)) from fun A B C D => by simp,
    cut_mid (by rw [List.length_append, F.dat_len (by omega)]) (by rw [ofI_length]), valI_ofI, h8]
theorem head_fr (hm : F.may) (hF : F.ok) (R : List Int) : frL (F.headL ++ (F.datL F.out ++ R)) = F := by
  have hb : ∀ j, j < 8 → byK (F.headL ++ (F.datL F.out ++ R)) (nB (F.headL ++ (F.datL F.out ++ R))) j = F.d.getD j 0 := by
    intro j hj
    rw [head_nB hm]
    unfold byK
    by_cases h : j < F.out
    · have := Fr.d_in hF j
      rw [if_pos h, dat_cut hm R h, Int.emod_eq_of_lt (by omega) (by omega)]
    · rw [if_neg h]
      have hl : j < F.d.length := hj
      have := hm.2.2.2.2 F.d[j] (by
        have h2 : j - F.out < (F.d.drop F.out).length := by rw [List.length_drop]; omega
        have h3 : (F.d.drop F.out)[j - F.out] = F.d[j] := by rw [List.getElem_drop]; congr 1; omega
        rw [← h3]; exact List.getElem_mem h2)
      rw [List.getD_eq_getElem?_getD, List.getElem?_eq_getElem hl]
      exact this.symm
  have hlen : ((sizeL (F.headL ++ (F.datL F.out ++ R)) : Nat) : Int) = F.len := by rw [head_len4 hm]; have := hm.2.2.1; omega
  unfold frL
  rw [head_id hm, head_ext', head_rtr, hlen, hb 0 (by omega), hb 1 (by omega), hb 2 (by omega), hb 3 (by omega), hb 4 (by omega), hb 5 (by omega), hb 6 (by omega), hb 7 (by omega)]
  rfl
end
end Go.AK
/- What the decoder does with a frame's levels, and with any: in plain Lean. -/
namespace Go.AK
open Go Go.RowKit
set_option linter.unusedVariables false
/-- A reader's way over levels: none is wrong, none is the last. -/
def go : List Int → List Int × Int × Int → Option (List Int × Int × Int)
  | [], s => some s
  | x :: t, s => if (stp s.1 s.2.1 s.2.2 x).1 ≠ 0 then none else if kn (stp s.1 s.2.1 s.2.2 x).2.1 = 9 then none else go t (stp s.1 s.2.1 s.2.2 x).2
theorem go_app {s' : List Int × Int × Int} : ∀ {l : List Int} {s : List Int × Int × Int}, go l s = some s' → ∀ t, go (l ++ t) s = go t s'
  | [], s, h, t => by cases h; rfl
  | x :: l, s, h, t => by
    rw [List.cons_append]
    conv => lhs; unfold go
    unfold go at h
    split at h
    · cases h
    · rename_i h1
      split at h
      · cases h
      · rename_i h2
        rw [if_neg h1, if_neg h2]
        exact go_app h t
theorem go_snoc {s s' : List Int × Int × Int} {l : List Int} {x : Int} {raw : List Int} {last run : Int} (h : go l s = some s') (h0 : stp s'.1 s'.2.1 s'.2.2 x = (0, raw, last, run)) (h9 : kn raw ≠ 9) : go (l ++ [x]) s = some (raw, last, run) := by
  rw [go_app (s := s) h]
  unfold go
  rw [h0, if_neg (fun e => e rfl), if_neg h9]
  rfl
theorem decG_go {e : Int} : ∀ {l : List Int} {s s' : List Int × Int × Int} (i : Int), go l s = some s' → ∀ t, decG e (l ++ t) i s.1 s.2.1 s.2.2 = decG e t (i + l.length) s'.1 s'.2.1 s'.2.2
  | [], s, s', i, h, t => by cases h; rw [List.nil_append, show i + (([] : List Int).length : Int) = i from by simp]
  | x :: l, s, s', i, h, t => by
    rw [List.cons_append]
    unfold go at h
    split at h
    · cases h
    · rename_i h1
      split at h
      · cases h
      · rename_i h2
        have := decG_go (e := e) (i + 1) h t
        rw [show decG e (x :: (l ++ t)) i s.1 s.2.1 s.2.2 = decG e (l ++ t) (i + 1) (stp s.1 s.2.1 s.2.2 x).2.1 (stp s.1 s.2.1 s.2.2 x).2.2.1 (stp s.1 s.2.1 s.2.2 x).2.2.2 from by
          conv => lhs; unfold decG
          rw [if_neg h1, if_neg h2], this, List.length_cons]
        congr 1
        omega
theorem decG_end {e : Int} {l : List Int} {s s' : List Int × Int × Int} (i : Int) (h : go l s = some s') : decG e l i s.1 s.2.1 s.2.2 = (Fr0, i + l.length, e) := by
  have := decG_go (e := e) i h []
  rw [List.append_nil] at this
  rw [this]; rfl
/-- What there is to tell of any levels. -/
theorem decG_cases (e : Int) : ∀ (l : List Int) (i : Int) (s : List Int × Int × Int),
    (∃ s', go l s = some s' ∧ decG e l i s.1 s.2.1 s.2.2 = (Fr0, i + l.length, e)) ∨
    (∃ (m : Nat) (h : m < l.length) (s' : List Int × Int × Int), go (l.take m) s = some s' ∧ (stp s'.1 s'.2.1 s'.2.2 l[m]).1 ≠ 0 ∧ decG e l i s.1 s.2.1 s.2.2 = (Fr0, i + m, (stp s'.1 s'.2.1 s'.2.2 l[m]).1)) ∨
    (∃ (m : Nat) (h : m < l.length) (s' : List Int × Int × Int), go (l.take m) s = some s' ∧ (stp s'.1 s'.2.1 s'.2.2 l[m]).1 = 0 ∧ kn (stp s'.1 s'.2.1 s'.2.2 l[m]).2.1 = 9 ∧ decG e l i s.1 s.2.1 s.2.2 = (frL (stp s'.1 s'.2.1 s'.2.2 l[m]).2.1, i + m + 1, 0))
  | [], i, s => .inl ⟨s, rfl, by show (Fr0, i, e) = _; simp⟩
  | x :: l, i, s => by
    by_cases h1 : (stp s.1 s.2.1 s.2.2 x).1 ≠ 0
    · refine .inr (.inl ⟨0, by simp, s, rfl, h1, ?_⟩)
      unfold decG
      rw [if_pos h1]
      simp
    · by_cases h2 : kn (stp s.1 s.2.1 s.2.2 x).2.1 = 9
      · refine .inr (.inr ⟨0, by simp, s, rfl, by simpa using h1, h2, ?_⟩)
        unfold decG
        rw [if_neg h1, if_pos h2]
        simp
      · have hd : decG e (x :: l) i s.1 s.2.1 s.2.2 = decG e l (i + 1) (stp s.1 s.2.1 s.2.2 x).2.1 (stp s.1 s.2.1 s.2.2 x).2.2.1 (stp s.1 s.2.1 s.2.2 x).2.2.2 := by
          conv => lhs; unfold decG
          rw [if_neg h1, if_neg h2]
        have hg : ∀ t, go (x :: t) s = go t (stp s.1 s.2.1 s.2.2 x).2 := fun t => by
          conv => lhs; unfold go
          rw [if_neg h1, if_neg h2]
        rcases decG_cases e l (i + 1) (stp s.1 s.2.1 s.2.2 x).2 with ⟨s', k1, k2⟩ | ⟨m, hm, s', k1, k2, k3⟩ | ⟨m, hm, s', k1, k2, k3, k4⟩
        · refine .inl ⟨s', by rw [hg]; exact k1, ?_⟩
          rw [hd, k2, List.length_cons]; congr 2; omega
        · refine .inr (.inl ⟨m + 1, by simp; omega, s', by rw [List.take_succ_cons, hg]; exact k1, k2, ?_⟩)
          rw [hd, k3, List.getElem_cons_succ]; congr 2; omega
        · refine .inr (.inr ⟨m + 1, by simp; omega, s', by rw [List.take_succ_cons, hg]; exact k1, k2, k3, ?_⟩)
          rw [hd, k4, List.getElem_cons_succ]; congr 2; omega
theorem stp_codes (raw : List Int) (last run x : Int) : (stp raw last run x).1 = 0 ∨ (stp raw last run x).1 = 11 ∨ (stp raw last run x).1 = 17 ∨ (stp raw last run x).1 = 18 := by
  unfold stp
  repeat' split
  all_goals simp
theorem go_ok : ∀ (l : List Int) (s s' : List Int × Int × Int), isLv l → RdOk s.1 s.2.2 → go l s = some s' → RdOk s'.1 s'.2.2 ∧ s'.1.length ≤ s.1.length + l.length
  | [], s, s', _, h, e => by cases e; exact ⟨h, Nat.le_refl _⟩
  | x :: l, s, s', hl, h, e => by
    unfold go at e
    split at e
    · cases e
    · rename_i h1
      split at e
      · cases e
      · rename_i h2
        obtain ⟨o1, o2, o3, o4, o5, o6⟩ := stp_ok (last := s.2.1) h (isLv_cons.1 hl).1 (by simpa using h1)
        have := go_ok l _ s' (isLv_cons.1 hl).2 ⟨o1, o2, h2, o3, o4, fun e => absurd e o6⟩ e
        exact ⟨this.1, by rw [List.length_cons]; omega⟩
def rd0 : List Int × Int × Int := ([], 0, 0)
theorem rd0_ok : RdOk rd0.1 rd0.2.2 := ⟨isLv_nil, by show 0 ≤ kn []; rw [kn_nil]; omega, by show kn [] ≠ 9; rw [kn_nil]; omega, by show (0 : Int) ≤ 0 ∧ (0 : Int) ≤ 5; omega, rfl, fun _ => rfl⟩
theorem lvP_of_take (L : List Int) {n : Nat} (h : n ≤ (lvP L).length) : lvP (L.take n) = (lvP L).take n := by
  have h1 : L.take n = (lvP L).take n := by
    conv => rhs; rw [← lvP_take L]
    rw [List.take_take, Nat.min_eq_left h]
  rw [h1, lvP_all (isLv_take (lvP_lv L) n)]
theorem len_of_take (L : List Int) {n : Nat} (h : n ≤ (lvP L).length) : (L.take n).length = n := by
  have := lvP_le L
  rw [List.length_take]; omega
theorem dec_take (L : List Int) {n : Nat} (h : n ≤ (lvP L).length) : dec (L.take n) = decG 13 ((lvP L).take n) 0 [] 0 0 := by
  unfold dec
  rw [lvP_of_take L h, if_neg]
  rw [len_of_take L h, List.length_take]
  omega
/-- P6: where levels are wrong, what is ahead is not. -/
theorem dec_err {L : List Int} (h : (dec L).2.2 ≠ 0) : (dec L).1 = Fr0 ∧ 0 ≤ (dec L).2.1 ∧ (dec L).2.1 ≤ L.length ∧ ((dec L).2.2 = 13 ↔ (dec L).2.1 = L.length) ∧ dec (L.take (dec L).2.1.toNat) = (Fr0, (dec L).2.1, 13) := by
  have hle := lvP_le L
  have hdd : dec L = decG (if (lvP L).length < L.length then 10 else 13) (lvP L) 0 rd0.1 rd0.2.1 rd0.2.2 := rfl
  rcases decG_cases (if (lvP L).length < L.length then 10 else 13) (lvP L) 0 rd0 with ⟨s', k1, k2⟩ | ⟨m, hm, s', k1, k2, k3⟩ | ⟨m, hm, s', k1, k2, k3, k4⟩
  · rw [hdd, k2]
    refine ⟨rfl, by dsimp only; omega, by dsimp only; omega, ?_, ?_⟩
    · dsimp only
      split <;> omega
    · dsimp only
      rw [show ((0 : Int) + ((lvP L).length : Nat)).toNat = (lvP L).length from by omega, dec_take L (Nat.le_refl _), List.take_length]
      exact decG_end 0 k1
  · rw [hdd, k3]
    have hc := stp_codes s'.1 s'.2.1 s'.2.2 (lvP L)[m]
    refine ⟨rfl, by dsimp only; omega, by dsimp only; omega, by dsimp only; omega, ?_⟩
    dsimp only
    rw [show ((0 : Int) + (m : Nat)).toNat = m from by omega, dec_take L (by omega)]
    have := decG_end (e := 13) 0 k1
    rw [List.length_take, Nat.min_eq_left (by omega)] at this
    exact this
  · rw [hdd, k4] at h
    exact absurd rfl h
theorem dec_ok {L : List Int} (h : (dec L).2.2 = 0) : (dec L).1.ok ∧ (dec L).1.may ∧ 44 ≤ (dec L).2.1 ∧ (dec L).2.1 ≤ L.length ∧ dec (L.take (dec L).2.1.toNat) = dec L := by
  have hle := lvP_le L
  have hdd : dec L = decG (if (lvP L).length < L.length then 10 else 13) (lvP L) 0 rd0.1 rd0.2.1 rd0.2.2 := rfl
  rcases decG_cases (if (lvP L).length < L.length then 10 else 13) (lvP L) 0 rd0 with ⟨s', k1, k2⟩ | ⟨m, hm, s', k1, k2, k3⟩ | ⟨m, hm, s', k1, k2, k3, k4⟩
  · rw [hdd, k2] at h
    dsimp only at h
    split at h <;> omega
  · rw [hdd, k3] at h
    exact absurd h k2
  · have hx := lvP_lv L _ (List.getElem_mem hm)
    have hok := go_ok _ rd0 s' (isLv_take (lvP_lv L) m) rd0_ok k1
    obtain ⟨o1, o2, o3, o4, o5, o6⟩ := stp_ok (last := s'.2.1) hok.1 hx k2
    obtain ⟨hw, hl⟩ := kn_done k3
    have hb := aheadN_le (stp s'.1 s'.2.1 s'.2.2 (lvP L)[m]).2.1
    have hlen := hok.2
    rw [List.length_take] at hlen
    have hr0 : rd0.1.length = 0 := rfl
    rw [hdd, k4]
    refine ⟨frL_ok o1, frL_may o1, by dsimp only; omega, by dsimp only; omega, ?_⟩
    dsimp only
    rw [show ((0 : Int) + (m : Nat) + 1).toNat = m + 1 from by omega, dec_take L (by omega), List.take_succ_eq_append_getElem hm]
    have := decG_go (e := 13) 0 k1 [(lvP L)[m]]
    rw [show decG 13 (List.take m (lvP L) ++ [(lvP L)[m]]) 0 [] 0 0 = decG 13 (List.take m (lvP L) ++ [(lvP L)[m]]) 0 rd0.1 rd0.2.1 rd0.2.2 from rfl, this]
    unfold decG
    rw [if_neg (fun e => e k2), if_pos k3, List.length_take, Nat.min_eq_left (by omega)]
/-! Over a frame's own levels. -/
theorem kn_low {l : List Int} (n : Nat) (hw : whole l = true → aheadN l = n) (h : l.length < n + 15) : kn l ≤ 4 ∧ 0 ≤ kn l := by
  have hb := aheadN_le l
  have h1 : 0 ≤ kn l := by
    have : ¬ kn l < 0 := fun e => by
      have h2 := kn_neg.1 e
      have := hw h2.1
      omega
    omega
  refine ⟨?_, h1⟩
  unfold kn
  repeat' split
  all_goals first | omega | skip
  all_goals
    have hwt : whole l = true := by simpa using (by assumption : ¬ whole l = false)
    have := hw hwt
    omega
theorem kn_high {l : List Int} (n : Nat) (hw : whole l = true) (ha : aheadN l = n) (h : n + 15 ≤ l.length) : kn l = if l.length < n + 16 then 5 else if l.length < n + 17 then 6 else if l.length < n + 18 then 7 else if l.length < n + 25 then 8 else if l.length = n + 25 then 9 else -1 := by
  have hb := aheadN_le l
  have h2 := of_decide_eq_true hw
  have he : extL l = true → dataAt l = 39 := fun e => by unfold dataAt; rw [if_pos e]
  unfold kn
  rw [if_neg (by omega), if_neg (fun e => by rcases e with e | ⟨e, e2⟩
                                             · omega
                                             · have := he e; omega), if_neg (by rw [hw]; decide), if_neg (by omega), if_neg (by omega), ha]
section
variable {F : Fr}
theorem core_head (F : Fr) (S : List Int) : F.coreL ++ S = F.headL ++ (F.datL F.out ++ (F.sumL ++ S)) := by
  unfold Fr.coreL Fr.bitsL; simp
theorem pre_whole (hm : F.may) {X : List Int} (hX : X <+: F.coreL) (hw : whole X = true) : aheadN X = F.bitsL.length := by
  obtain ⟨t, ht⟩ := hX
  have h1 := ahead_app t hw
  rw [ht] at h1
  have h2 := core_head F []
  rw [List.append_nil] at h2
  rw [← h1, h2, head_ahead hm]
theorem core_ahead (hm : F.may) (S : List Int) : whole (F.coreL ++ S) = true ∧ aheadN (F.coreL ++ S) = F.bitsL.length := by
  rw [core_head]; exact ⟨head_whole _, head_ahead hm _⟩
theorem core_len15 (F : Fr) : F.coreL.length = F.bitsL.length + 15 := by unfold Fr.coreL; rw [List.length_append, F.sum_len]
theorem core_kn (hm : F.may) (S : List Int) : kn (F.coreL ++ S) = if S.length < 1 then 5 else if S.length < 2 then 6 else if S.length < 3 then 7 else if S.length < 10 then 8 else if S.length = 10 then 9 else -1 := by
  obtain ⟨h1, h2⟩ := core_ahead hm S
  have h3 := core_len15 F
  rw [kn_high F.bitsL.length h1 h2 (by rw [List.length_append]; omega), List.length_append]
  repeat' split
  all_goals omega
theorem core_right (hm : F.may) : rightB (F.coreL.take (aheadN F.coreL + 15)) = true := by
  have h1 := (core_ahead hm []).2
  rw [List.append_nil] at h1
  have h2 := core_len15 F
  rw [h1, List.take_of_length_le (by omega)]
  unfold rightB
  rw [h2, decide_eq_true (by omega : 15 ≤ F.bitsL.length + 15), Bool.true_and, Nat.add_sub_cancel]
  refine decide_eq_true ?_
  unfold Fr.coreL
  rw [List.drop_left, List.take_left]
  rfl
def lastOf (l : List Int) : Int := l.getLastD 0
theorem lastOf_snoc (l : List Int) (x : Int) : lastOf (l ++ [x]) = x := by unfold lastOf; simp
theorem last_iff {l : List Int} {x : Int} (h : 0 < tailRun l) : l.getLast? = some x ↔ x = lastOf l := by
  rcases snoc_cases l with rfl | ⟨t, y, rfl⟩
  · exact absurd h (by decide)
  · rw [lastOf_snoc, last_snoc]; constructor
    · intro e; injection e with e; exact e.symm
    · rintro rfl; rfl
theorem tail_zero {l : List Int} (h : tailRun l = 0) : l = [] := by
  rcases snoc_cases l with rfl | ⟨t, y, rfl⟩
  · rfl
  · have := tailRun_pos t y; omega
/-- What is stuffed up to the sum is read as it was. -/
theorem go_core (hm : F.may) : ∀ (X : List Int), X <+: F.coreL → go (stuffed X) rd0 = some (X, lastOf (stuffed X), ((tailRun (stuffed X) : Nat) : Int)) := by
  intro X
  induction X using snoc_ind with
  | h0 => intro _; rfl
  | h1 X x ih =>
    intro hX
    have hX0 : X <+: F.coreL := (List.prefix_append X [x]).trans hX
    have hg := ih hX0
    have hl := hX.length_le
    rw [List.length_append, List.length_singleton] at hl
    have hcl := core_len15 F
    have hk := kn_low F.bitsL.length (pre_whole hm hX0) (by omega)
    have hlvX : isLv (X ++ [x]) := fun y hy => Fr.core_lv hm y (hX.subset hy)
    have hx : x = 0 ∨ x = 1 := hlvX x (by simp)
    have hk9 : kn (X ++ [x]) ≠ 9 := fun e => by
      obtain ⟨h1, h2⟩ := kn_done e
      have := pre_whole hm hX h1
      rw [List.length_append, List.length_singleton] at h2
      omega
    have ht := stuffed_tail X
    have h0 : ¬ (kn X = 0 ∧ x = 1) := by
      rintro ⟨h1, h2⟩
      have hnil : X = [] := by
        by_cases e : X = []
        · exact e
        · have := kn_pos e (by omega); omega
      subst hnil
      obtain ⟨t, ht⟩ := hX
      have h3 := core_head F []
      rw [List.append_nil] at h3
      have h4 : (x :: t).getD 0 0 = F.coreL.getD 0 0 := by rw [← ht]; rfl
      rw [h3, head_0] at h4
      have : x = 0 := h4
      omega
    have hrun : (if ((tailRun (stuffed X) : Nat) : Int) > 0 ∧ x = lastOf (stuffed X) then ((tailRun (stuffed X) : Nat) : Int) + 1 else 1) = ((tailRun (stuffed X ++ [x]) : Nat) : Int) := by
      rw [tailRun_snoc]
      by_cases hp : 0 < tailRun (stuffed X)
      · by_cases e : x = lastOf (stuffed X)
        · rw [if_pos ⟨by omega, e⟩, if_pos ((last_iff hp).2 e)]; omega
        · rw [if_neg (fun h => e h.2), if_neg (fun h => e ((last_iff hp).1 h))]; rfl
      · have hz := tail_zero (l := stuffed X) (by omega)
        rw [if_neg (fun h => by omega), hz]; rfl
    have hs1 : stp X (lastOf (stuffed X)) ((tailRun (stuffed X) : Nat) : Int) x = (0, X ++ [x], x, ((tailRun (stuffed X ++ [x]) : Nat) : Int)) := by
      unfold stp
      rw [if_neg (by omega), if_neg h0, if_pos hk.1, hrun]
    have hg1 := go_snoc hg hs1 hk9
    rw [stuffed_snoc, addS]
    by_cases h5 : tailRun (stuffed X ++ [x]) = 5
    · rw [if_pos h5, lastOf_snoc, addS_other]
      refine go_snoc hg1 ?_ hk9
      unfold stp
      rw [if_pos (by show ((tailRun (stuffed X ++ [x]) : Nat) : Int) = 5; omega), if_neg (by show ¬ 1 - x = x; omega)]
      rfl
    · rw [if_neg h5, lastOf_snoc]
      exact hg1
/-- Levels behind the sum that may be. -/
def tailOk : Nat → List Int → Prop
  | _, [] => True
  | k, x :: t => (k = 1 ∨ x = 1) ∧ tailOk (k + 1) t
theorem stp_tail (hm : F.may) {S : List Int} {last run x : Int} (hs : S.length < 10) (hr : run ≠ 5) (h : S.length = 1 ∨ x = 1) : stp (F.coreL ++ S) last run x = (0, F.coreL ++ S ++ [x], last, 0) := by
  have hk := core_kn hm S
  unfold stp
  rw [if_neg hr]
  have h4 : 5 ≤ kn (F.coreL ++ S) ∧ (kn (F.coreL ++ S) = 5 → S = []) ∧ (S.length = 1 → kn (F.coreL ++ S) = 6) := by
    rw [hk]
    refine ⟨?_, ?_, ?_⟩
    · repeat' split
      all_goals omega
    · intro e
      refine List.eq_nil_of_length_eq_zero ?_
      repeat' split at e
      all_goals omega
    · intro e
      rw [if_neg (by omega), if_pos (by omega)]
  rw [if_neg (by omega), if_neg (by omega), if_neg, if_neg]
  · rintro ⟨h6, h7⟩
    rcases h with h | h
    · exact h6 (h4.2.2 h)
    · omega
  · rintro ⟨h6, h7⟩
    have := h4.2.1 h6
    subst this
    rw [List.append_nil, core_right hm] at h7
    cases h7
theorem stp_bad (hm : F.may) {S : List Int} {last run : Int} (hs : S.length < 10) (hr : run ≠ 5) (h : S.length ≠ 1) : (stp (F.coreL ++ S) last run 0).1 = 11 := by
  have hk := core_kn hm S
  unfold stp
  rw [if_neg hr]
  have h4 : 5 ≤ kn (F.coreL ++ S) ∧ (kn (F.coreL ++ S) = 5 → S = []) ∧ kn (F.coreL ++ S) ≠ 6 := by
    rw [hk]
    refine ⟨?_, ?_, ?_⟩
    · repeat' split
      all_goals omega
    · intro e
      refine List.eq_nil_of_length_eq_zero ?_
      repeat' split at e
      all_goals omega
    · repeat' split
      all_goals omega
  rw [if_neg (by omega), if_neg (by omega), if_neg, if_pos ⟨h4.2.2, rfl⟩]
  rintro ⟨h6, h7⟩
  have := h4.2.1 h6
  subst this
  rw [List.append_nil, core_right hm] at h7
  cases h7
theorem go_tail (hm : F.may) : ∀ (t S : List Int) (last run : Int), S.length + t.length < 10 → run ≠ 5 → tailOk S.length t → ∃ run', run' ≠ 5 ∧ go t (F.coreL ++ S, last, run) = some (F.coreL ++ S ++ t, last, run')
  | [], S, last, run, _, hr, _ => ⟨run, hr, by rw [List.append_nil]; rfl⟩
  | x :: t, S, last, run, hl, hr, h => by
    rw [List.length_cons] at hl
    have hs := stp_tail hm (S := S) (last := last) (run := run) (x := x) (by omega) hr h.1
    have hsl : (S ++ [x]).length = S.length + 1 := by rw [List.length_append]; rfl
    have hk : kn (F.coreL ++ S ++ [x]) ≠ 9 := by
      rw [List.append_assoc, core_kn hm (S ++ [x]), hsl]
      repeat' split
      all_goals omega
    obtain ⟨run', h1, h2⟩ := go_tail hm t (S ++ [x]) last 0 (by omega) (by omega) (by rw [hsl]; exact h.2)
    refine ⟨run', h1, ?_⟩
    unfold go
    dsimp only
    rw [hs, if_neg (fun e => e rfl), if_neg hk]
    dsimp only
    rw [List.append_assoc F.coreL S [x], h2]
    simp [List.append_assoc]
/-- A frame's levels, whatever the slot is, are decoded as it, whatever stands behind. -/
theorem dec_frame (hm : F.may) (hF : F.ok) (a : Int) (e : Int) (T : List Int) : decG e ((stuffed F.coreL ++ ([1, a] ++ List.replicate 8 1)) ++ T) 0 [] 0 0 = (F, (((stuffed F.coreL).length + 10 : Nat) : Int), 0) := by
  have hg := go_core hm F.coreL (List.prefix_refl _)
  have ht := stuffed_tail F.coreL
  obtain ⟨run', h1, h2⟩ := go_tail hm ([1, a] ++ List.replicate 7 1) [] (lastOf (stuffed F.coreL)) ((tailRun (stuffed F.coreL) : Nat) : Int) (by simp) (by omega)
    (show tailOk 0 [1, a, 1, 1, 1, 1, 1, 1, 1] from ⟨.inr rfl, .inl rfl, .inr rfl, .inr rfl, .inr rfl, .inr rfl, .inr rfl, .inr rfl, .inr rfl, trivial⟩)
  rw [List.append_nil] at h2
  have hsp : (stuffed F.coreL ++ ([1, a] ++ List.replicate 8 1)) ++ T = (stuffed F.coreL ++ ([1, a] ++ List.replicate 7 1)) ++ (1 :: T) := by
    rw [show List.replicate 8 (1 : Int) = List.replicate 7 1 ++ [1] from rfl]; simp
  have hgo : go (stuffed F.coreL ++ ([1, a] ++ List.replicate 7 1)) rd0 = some (F.coreL ++ ([1, a] ++ List.replicate 7 1), lastOf (stuffed F.coreL), run') := by
    rw [go_app (s := rd0) hg]; exact h2
  rw [hsp, show decG e ((stuffed F.coreL ++ ([1, a] ++ List.replicate 7 1)) ++ (1 :: T)) 0 [] 0 0 = decG e ((stuffed F.coreL ++ ([1, a] ++ List.replicate 7 1)) ++ (1 :: T)) 0 rd0.1 rd0.2.1 rd0.2.2 from rfl, decG_go 0 hgo]
  have hs := stp_tail hm (S := [1, a] ++ List.replicate 7 1) (last := lastOf (stuffed F.coreL)) (run := run') (x := 1) (by simp) h1 (.inr rfl)
  unfold decG
  dsimp only
  have hk : kn (F.coreL ++ ([1, a] ++ List.replicate 7 1) ++ [1]) = 9 := by
    rw [List.append_assoc, core_kn hm]
    rfl
  rw [hs, if_neg (fun h => h rfl), if_pos hk]
  dsimp only
  rw [List.append_assoc, core_head, head_fr hm hF]
  congr 2
  rw [List.length_append, List.length_append, List.length_replicate]
  simp; omega
theorem tailOk_take : ∀ (t : List Int) (k n : Nat), tailOk k t → tailOk k (t.take n)
  | [], k, n, h => by simp [tailOk]
  | x :: t, k, 0, h => trivial
  | x :: t, k, n + 1, h => ⟨h.1, tailOk_take t (k + 1) n h.2⟩
/-- A beginning of them is too short, at its end. -/
theorem dec_short (hm : F.may) (a : Int) (e : Int) {n : Nat} (hn : n < (stuffed F.coreL).length + 10) : decG e ((stuffed F.coreL ++ ([1, a] ++ List.replicate 8 1)).take n) 0 [] 0 0 = (Fr0, (n : Int), e) := by
  have ht := stuffed_tail F.coreL
  have hg := go_core hm F.coreL (List.prefix_refl _)
  have hlen : (stuffed F.coreL ++ ([1, a] ++ List.replicate 8 1)).length = (stuffed F.coreL).length + 10 := by rw [List.length_append]; rfl
  have key : ∃ s', go ((stuffed F.coreL ++ ([1, a] ++ List.replicate 8 1)).take n) rd0 = some s' := by
    by_cases h : n ≤ (stuffed F.coreL).length
    · rw [List.take_append_of_le_length h]
      -- of a way that is gone each beginning is gone
      have pre : ∀ (l t : List Int) (s s' : List Int × Int × Int), go (l ++ t) s = some s' → ∃ u, go l s = some u := by
        intro l
        induction l with
        | nil => intro t s s' _; exact ⟨s, rfl⟩
        | cons x l ih =>
          intro t s s' h
          rw [List.cons_append] at h
          unfold go at h ⊢
          split at h
          · cases h
          · rename_i h1
            split at h
            · cases h
            · rename_i h2
              rw [if_neg h1, if_neg h2]
              exact ih t _ s' h
      rw [← List.take_append_drop n (stuffed F.coreL)] at hg
      exact pre _ _ _ _ hg
    · obtain ⟨j, hj⟩ : ∃ j, n = (stuffed F.coreL).length + j := ⟨n - (stuffed F.coreL).length, by omega⟩
      rw [hj, List.take_length_add_append]
      have hok : tailOk 0 (([1, a] ++ List.replicate 8 1).take j) := tailOk_take _ 0 j (show tailOk 0 [1, a, 1, 1, 1, 1, 1, 1, 1, 1] from ⟨.inr rfl, .inl rfl, .inr rfl, .inr rfl, .inr rfl, .inr rfl, .inr rfl, .inr rfl, .inr rfl, .inr rfl, trivial⟩)
      obtain ⟨run', h1, h2⟩ := go_tail hm (([1, a] ++ List.replicate 8 1).take j) [] (lastOf (stuffed F.coreL)) ((tailRun (stuffed F.coreL) : Nat) : Int) (by
        rw [List.length_take]; show 0 + min j 10 < 10; omega) (by omega) hok
      rw [List.append_nil] at h2
      exact ⟨_, by rw [go_app (s := rd0) hg]; exact h2⟩
  obtain ⟨s', hs⟩ := key
  have := decG_end (e := e) 0 hs
  rw [List.length_take, hlen, Nat.min_eq_left (by omega), show ((0 : Int) + (n : Nat)) = n from by omega] at this
  exact this
/-- A level behind the sum that is turned. -/
theorem dec_turned (hm : F.may) (a : Int) (e : Int) {w : Nat} (hw : w < 10) (h1 : w ≠ 1) (T : List Int) : decG e (stuffed F.coreL ++ (([1, a] ++ List.replicate 8 1).take w ++ 0 :: T)) 0 [] 0 0 = (Fr0, (((stuffed F.coreL).length + w : Nat) : Int), 11) := by
  have ht := stuffed_tail F.coreL
  have hg := go_core hm F.coreL (List.prefix_refl _)
  have hok : tailOk 0 (([1, a] ++ List.replicate 8 1).take w) := tailOk_take _ 0 w (show tailOk 0 [1, a, 1, 1, 1, 1, 1, 1, 1, 1] from ⟨.inr rfl, .inl rfl, .inr rfl, .inr rfl, .inr rfl, .inr rfl, .inr rfl, .inr rfl, .inr rfl, .inr rfl, trivial⟩)
  have hl : (([1, a] ++ List.replicate 8 1).take w).length = w := by rw [List.length_take]; show min w 10 = w; omega
  obtain ⟨run', k1, k2⟩ := go_tail hm (([1, a] ++ List.replicate 8 1).take w) [] (lastOf (stuffed F.coreL)) ((tailRun (stuffed F.coreL) : Nat) : Int) (by rw [hl]; show 0 + w < 10; omega) (by omega) hok
  rw [List.append_nil] at k2
  have hgo : go (stuffed F.coreL ++ ([1, a] ++ List.replicate 8 1).take w) rd0 = some (F.coreL ++ ([1, a] ++ List.replicate 8 1).take w, lastOf (stuffed F.coreL), run') := by rw [go_app (s := rd0) hg]; exact k2
  have := decG_go (e := e) 0 hgo (0 :: T)
  rw [List.append_assoc] at this
  refine this.trans ?_
  have hb := stp_bad hm (S := ([1, a] ++ List.replicate 8 1).take w) (last := lastOf (stuffed F.coreL)) (run := run') (by omega) k1 (by omega)
  unfold decG
  dsimp only
  rw [hb, if_pos (by omega), List.length_append, hl]
  congr 2
  omega
end
end Go.AK
namespace Go.AK
open Go Go.RowKit Go.Proofs
set_option linter.unusedVariables false
set_option maxRecDepth 100000
def kindsF : List (Option IntKind) := [some .i64, none, none, some .i64, some .u8, some .u8, some .u8, some .u8, some .u8, some .u8, some .u8, some .u8]
theorem bytes_eq (a0 a1 a2 a3 a4 a5 a6 a7 b0 b1 b2 b3 b4 b5 b6 b7 : Int) (w : World) : (Op.equalIn 9999 24 (.agg #[.int .u8 a0, .int .u8 a1, .int .u8 a2, .int .u8 a3, .int .u8 a4, .int .u8 a5, .int .u8 a6, .int .u8 a7])
    (.agg #[.int .u8 b0, .int .u8 b1, .int .u8 b2, .int .u8 b3, .int .u8 b4, .int .u8 b5, .int .u8 b6, .int .u8 b7])).run Try.prog w = .ok ((a0 == b0) && ((a1 == b1) && ((a2 == b2) && ((a3 == b3) && ((a4 == b4) && ((a5 == b5) && ((a6 == b6) && ((a7 == b7) && true)))))))) w := by
  have ht : tiOf T 5 = some _ := rfl
  refine eqi_of (n := 8) (e := 5) (c := 1) (by kernel_rfl) (by kernel_rfl) (by kernel_rfl) ?_
  show (Op.eqItems 9998 _ _ _ _ [0, 1, 2, 3, 4, 5, 6, 7]).run _ w = _
  exact eqi_cons (part_cell tok ht rfl rfl w) (part_cell tok ht rfl rfl w) (eq_int tok ht rfl _ _ _ w) <|
    eqi_cons (part_cell tok ht rfl rfl w) (part_cell tok ht rfl rfl w) (eq_int tok ht rfl _ _ _ w) <|
    eqi_cons (part_cell tok ht rfl rfl w) (part_cell tok ht rfl rfl w) (eq_int tok ht rfl _ _ _ w) <|
    eqi_cons (part_cell tok ht rfl rfl w) (part_cell tok ht rfl rfl w) (eq_int tok ht rfl _ _ _ w) <|
    eqi_cons (part_cell tok ht rfl rfl w) (part_cell tok ht rfl rfl w) (eq_int tok ht rfl _ _ _ w) <|
    eqi_cons (part_cell tok ht rfl rfl w) (part_cell tok ht rfl rfl w) (eq_int tok ht rfl _ _ _ w) <|
    eqi_cons (part_cell tok ht rfl rfl w) (part_cell tok ht rfl rfl w) (eq_int tok ht rfl _ _ _ w) <|
    eqi_cons (part_cell tok ht rfl rfl w) (part_cell tok ht rfl rfl w) (eq_int tok ht rfl _ _ _ w) eqi_nil
theorem kindsF_open {xs : Array Value} (h : kindsOf kindsF xs.toList) : ∃ a b c d e0 e1 e2 e3 e4 e5 e6 e7, xs = #[.int .i64 a, .bool b, .bool c, .int .i64 d, .int .u8 e0, .int .u8 e1, .int .u8 e2, .int .u8 e3, .int .u8 e4, .int .u8 e5, .int .u8 e6, .int .u8 e7] := by
  obtain ⟨_, _, h0, ⟨a, rfl⟩, _, _, rfl, ⟨b, rfl⟩, _, _, rfl, ⟨c, rfl⟩, _, _, rfl, ⟨d, rfl⟩, _, _, rfl, ⟨e0, rfl⟩, _, _, rfl, ⟨e1, rfl⟩, _, _, rfl, ⟨e2, rfl⟩, _, _, rfl, ⟨e3, rfl⟩, _, _, rfl, ⟨e4, rfl⟩, _, _, rfl, ⟨e5, rfl⟩, _, _, rfl, ⟨e6, rfl⟩, _, _, rfl, ⟨e7, rfl⟩, rfl⟩ := h
  exact ⟨a, b, c, d, e0, e1, e2, e3, e4, e5, e6, e7, by rw [← Array.toList_inj]; exact h0⟩
theorem flatFrame : flatEq Try.prog 26 kindsF := by
  intro xs ys w r hx hy hr
  obtain ⟨a, b, c, d, e0, e1, e2, e3, e4, e5, e6, e7, rfl⟩ := kindsF_open hx
  obtain ⟨a', b', c', d', f0, f1, f2, f3, f4, f5, f6, f7, rfl⟩ := kindsF_open hy
  have hr := cells_iff (by simp) hr
  have hr2 : r = ((a == a') && ((b == b') && ((c == c') && ((d == d') && (((e0 == f0) && ((e1 == f1) && ((e2 == f2) && ((e3 == f3) && ((e4 == f4) && ((e5 == f5) && ((e6 == f6) && ((e7 == f7) && true)))))))) && true))))) := by
    rw [Bool.eq_iff_iff, hr]
    simp
  have h0 : tiOf T 3 = some _ := rfl
  have h1 : tiOf T 4 = some _ := rfl
  have h2 : tiOf T 24 = some _ := rfl
  constructor
  · rw [run_equalIn_struct w 9999 26 _ _ (by kernel_rfl) (by kernel_rfl), hr2]
    exact eqf_cons (by decide) (part_cell tok h0 rfl rfl w) (part_cell tok h0 rfl rfl w) (eq_int tok h0 rfl _ _ _ w) <|
      eqf_cons (by decide) (part_cell tok h1 rfl rfl w) (part_cell tok h1 rfl rfl w) (eq_bool tok h1 rfl _ _ _ w) <|
      eqf_cons (by decide) (part_cell tok h1 rfl rfl w) (part_cell tok h1 rfl rfl w) (eq_bool tok h1 rfl _ _ _ w) <|
      eqf_cons (by decide) (part_cell tok h0 rfl rfl w) (part_cell tok h0 rfl rfl w) (eq_int tok h0 rfl _ _ _ w) <|
      eqf_cons (by decide) (part_agg tok h2 rfl w) (part_agg tok h2 rfl w) (bytes_eq _ _ _ _ _ _ _ _ _ _ _ _ _ _ _ _ w) eqf_nil
  · intro op x y
    exact run_eqGuard_agg w op 26 x y _ _ (by kernel_rfl)
end Go.AK
namespace Go.AK
open Go Go.RowKit Go.Proofs
set_option linter.unusedVariables false
set_option maxRecDepth 100000
theorem ints_spec (L M : List Int) (hL : L.length < 1000000000) : ACall Try.prog 17 [.rs (ints L) 0 1 L.length, .rs (ints M) 0 1 M.length] [] fun r H => r = .ret (.b (decide (L = M))) ∧ H = [] := by
  refine ACall.enter tok false Try.func17 rfl rfl rfl (AW_sound (ip := false) tok _ _ _ _ ?_)
  conv => whnf
  by_cases h0 : L.length = M.length
  · refine acond_f (by rw [h0]; simp) ?_
    conv => whnf
    refine ALoop.ind (ip := false) tok (fun m r H => ∃ (k : Nat), k ≤ L.length ∧ m = L.length - k ∧ L.take k = M.take k ∧ H = [] ∧
      r = [(5, .i .i64 k), (1, .rs (ints M) 0 1 M.length), (0, .rs (ints L) 0 1 L.length)]) L.length ?_ ?_
    · exact Gh.regs [5, 1, 0] (Gh.of ⟨0, by omega, by omega, rfl, rfl, rfl⟩)
    · rintro m r H ⟨k, hk, rfl, he, rfl, rfl⟩
      conv => whnf
      by_cases h : (k : Int) < L.length
      · have hkl : k < L.length := by omega
        have hkm : k < M.length := by omega
        refine acond_t (decide_eq_true h) ?_
        conv => whnf
        refine ADraw.of tok mixed false [0, 1, 2, 3, 4, 5, 6, 7, 8] [] (by kernel_rfl) (fun _ _ _ _ h => h) ?_
        conv => whnf
        refine ⟨⟨by omega, h⟩, ?_⟩
        conv => whnf
        refine aget_num (i := k) (by omega) (List.getElem?_eq_getElem hkl) ?_
        conv => whnf
        refine ⟨⟨by omega, by omega⟩, ?_⟩
        conv => whnf
        refine aget_num (i := k) (by omega) (List.getElem?_eq_getElem hkm) ?_
        conv => whnf
        by_cases e : L[k] = M[k]
        · refine acond_f (by rw [e]; simp) ?_
          conv => whnf
          refine Gh.regs [5, 1, 0] (Gh.of ⟨L.length - (k + 1), by omega, k + 1, by omega, rfl, ?_, rfl, by rw [w64 (by omega) (by omega)]; rfl⟩)
          rw [List.take_succ_eq_append_getElem hkl, List.take_succ_eq_append_getElem hkm, he, e]
        · refine acond_t (bne_iff_ne.2 e) ?_
          conv => whnf
          refine ⟨?_, rfl⟩
          rw [decide_eq_false]
          intro h2
          subst h2
          exact e rfl
      · refine acond_f (decide_eq_false h) ?_
        conv => whnf
        have hk2 : k = L.length := by omega
        refine ⟨?_, rfl⟩
        rw [decide_eq_true]
        have := he
        rwa [hk2, List.take_length, h0, List.take_length] at this
  · refine acond_t (bne_iff_ne.2 (by omega)) ?_
    conv => whnf
    refine ⟨?_, rfl⟩
    rw [decide_eq_false]
    intro h2
    exact h0 (by rw [h2])
theorem Fr0_ok : Fr0.ok := ⟨by decide, by decide, by decide⟩
theorem Fr0_may : Fr0.may := by decide
theorem enc_dec {F : Fr} (hm : F.may) (hF : F.ok) (ack : Bool) (T : List Int) : dec (F.encL ack ++ T) = (F, ((F.encL ack).length : Int), 0) := by
  have hl : isLv (F.encL ack) := by
    unfold Fr.encL
    exact isLv_append.2 ⟨stuffed_lv (Fr.core_lv hm), isLv_append.2 ⟨isLv_cons.2 ⟨.inr rfl, isLv_cons.2 ⟨by cases ack <;> simp, isLv_nil⟩⟩, isLv_replicate _ (.inr rfl)⟩⟩
  have hp : ∀ (l : List Int), isLv l → lvP (l ++ T) = l ++ lvP T := by
    intro l
    induction l with
    | nil => intro _; rfl
    | cons x l ih =>
      intro h
      show lvP (x :: (l ++ T)) = _
      conv => lhs; unfold lvP
      rw [if_pos (isLv_cons.1 h).1, ih (isLv_cons.1 h).2]; rfl
  unfold dec
  rw [hp _ hl, F.enc_len]
  exact dec_frame hm hF _ _ _
theorem enc_lv {F : Fr} (hm : F.may) (ack : Bool) : isLv (F.encL ack) := by
  unfold Fr.encL
  exact isLv_append.2 ⟨stuffed_lv (Fr.core_lv hm), isLv_append.2 ⟨isLv_cons.2 ⟨.inr rfl, isLv_cons.2 ⟨by cases ack <;> simp, isLv_nil⟩⟩, isLv_replicate _ (.inr rfl)⟩⟩
theorem enc_le {F : Fr} (hm : F.may) (ack : Bool) : 44 ≤ (F.encL ack).length ∧ (F.encL ack).length ≤ 200 := by
  have h1 := Fr.core_len hm
  have h2 := Fr.out_le hm
  have h3 := stuffed_length F.coreL
  rw [F.enc_len]
  split at h1 <;> omega
theorem frSame (F : Fr) : (F.id == F.id && (F.ext == F.ext && (F.rtr == F.rtr && (F.len == F.len && (F.b0 == F.b0 && (F.b1 == F.b1 && (F.b2 == F.b2 && (F.b3 == F.b3 && (F.b4 == F.b4 && (F.b5 == F.b5 && (F.b6 == F.b6 && (F.b7 == F.b7 && true)))))))))))) = true := by simp
theorem enc0 : (Fr0.encL true).length = 50 ∧ (Fr0.encL true).take 12 = [0, 0, 0, 0, 0, 1, 0, 0, 0, 0, 0, 1] ∧ (Fr0.encL true).getD 41 0 = 0 := by decide +kernel
theorem awake6_spec : ACall Try.prog 9 [] [] fun r H => r = .ret (.b true) ∧ H = [] := by
  refine ACall.gh ?_
  refine ACall.enter tok false Try.func9 rfl rfl rfl (AW_sound (ip := false) tok _ _ _ _ ?_)
  have henc := encode_spec Fr0 Fr0_ok true
  have hd := enc_dec Fr0_may Fr0_ok true []
  rw [List.append_nil] at hd
  obtain ⟨h50, h12, h41⟩ := enc0
  generalize Fr0.encL true = E at henc hd h50 h12 h41
  have hdec := decode_spec E (by omega)
  rw [hd, h50] at hdec
  conv => whnf
  unfold BitsK at henc
  rw [h50] at henc
  refine ACall.mono henc ?_
  rintro r H (⟨h, _⟩ | ⟨_, c, hc, rfl, rfl⟩)
  · exact absurd Fr0_may h
  conv => whnf
  refine ACall.frameH [] [0] rfl (args' := [.rs (ints E) 0 1 50]) (Hc := []) (by show [AV.rs (subs _ (ints _)) _ _ _] = _; rw [subs_nums]) rfl hdec ?_
  rintro r H ⟨rfl, rfl⟩
  refine ⟨.inr ⟨rfl, rfl⟩, [.c (ints E)], rfl, ?_⟩
  conv => whnf
  refine ⟨by show 0 + 12 ≤ 12; omega, ?_⟩
  conv => whnf
  refine ACall.frameH [] [] rfl (args' := [.i .i64 8, .b false]) (Hc := []) rfl rfl (longest_spec 8 false (by omega) (by omega)) ?_
  rw [show longL 8 false = 132 from by decide]
  rintro r H ⟨rfl, rfl⟩
  refine ⟨.inl rfl, [.c (ints E), .c Fr0.cells], rfl, ?_⟩
  conv => whnf
  refine ⟨by omega, ?_⟩
  conv => whnf
  have hi := ints_spec (cut E 0 12) [0, 0, 0, 0, 0, 1, 0, 0, 0, 0, 0, 1] (by rw [cut_length _ _ _ (by omega)]; omega)
  rw [decide_eq_true (show cut E 0 12 = _ from h12)] at hi
  refine ACall.frameH [] [0, 2] rfl (args' := [.rs (ints E) 0 1 12, .rs (ints [0, 0, 0, 0, 0, 1, 0, 0, 0, 0, 0, 1]) 0 1 12]) (Hc := []) (by show [AV.rs (subs _ (ints _)) _ _ _, _] = _; rw [subs_nums]; rfl) rfl (ACall.args hi (VLe.cut (a := 0) (b := 12) (by omega) (by omega) rfl rfl (VLe.cons VLe.nil))) ?_
  rintro r H ⟨rfl, rfl⟩
  refine ⟨.inr ⟨rfl, rfl⟩, [.c (ints E), .c Fr0.cells, .c (ints [0, 0, 0, 0, 0, 1, 0, 0, 0, 0, 0, 1])], rfl, ?_⟩
  conv => whnf
  obtain ⟨ix, hix⟩ : ∃ ix : Int, ix = 41 := ⟨_, rfl⟩
  have e41 : IntKind.i64.wrap (((50 : Nat) : Int) - 9) = ix := by rw [hix]; decide
  rw [e41]
  refine ⟨⟨by omega, by omega⟩, ?_⟩
  conv => whnf
  refine aget_num (i := 41) (by rw [hix]; rfl) (get_gd (by omega)) ?_
  rw [h41]
  conv => whnf
  refine ⟨flatFrame, ?_⟩
  conv => whnf
  exact GhR.sel [] rfl (GhR.of ⟨rfl, rfl⟩)
end Go.AK
namespace Go.AK
open Go Go.RowKit Go.Proofs
set_option linter.unusedVariables false
set_option maxRecDepth 100000
theorem rvalue_spec (L : List Int) (hL : L.length ≤ 60) (hl : isLv L) : ACall Try.prog 46 [.rs (ints L) 0 1 L.length] [] fun r H => r = .ret (.i .i64 (valI L)) ∧ H = [] := by
  refine ACall.enter tok false Try.func46 rfl rfl rfl (AW_sound (ip := false) tok _ _ _ _ ?_)
  conv => whnf
  refine ALoop.ind (ip := false) tok (fun m r H => ∃ (k : Nat), k ≤ L.length ∧ m = L.length - k ∧ H = [] ∧ r = [(4, .i .i64 k), (3, .i .i64 (valI (L.take k))), (0, .rs (ints L) 0 1 L.length)]) L.length ?_ ?_
  · exact Gh.regs [4, 3, 0] (Gh.of ⟨0, by omega, by omega, rfl, rfl⟩)
  · rintro m r H ⟨k, hk, rfl, rfl, rfl⟩
    conv => whnf
    by_cases h : (k : Int) < L.length
    · have hkl : k < L.length := by omega
      have hb := valI_small (isLv_take hl k) (n := 60) (by rw [List.length_take]; omega)
      have h60 : (2 : Int) ^ 60 = 1152921504606846976 := by decide
      have hx := hl _ (List.getElem_mem hkl)
      have e3 : valI (L.take (k + 1)) = 2 * valI (L.take k) + L[k] := by rw [List.take_succ_eq_append_getElem hkl, valI_snoc]
      refine acond_t (decide_eq_true h) ?_
      conv => whnf
      refine ⟨⟨by omega, h⟩, ?_⟩
      conv => whnf
      refine aget_num (i := k) (by omega) (List.getElem?_eq_getElem hkl) ?_
      conv => whnf
      refine Gh.regs [4, 3, 0] (Gh.of ⟨L.length - (k + 1), by omega, k + 1, by omega, rfl, rfl, ?_⟩)
      rw [w64 (x := 2 * valI (L.take k)) (by omega) (by omega), w64 (x := 2 * valI (L.take k) + L[k]) (by omega) (by omega), w64 (x := (k : Int) + 1) (by omega) (by omega), ← e3]
      rfl
    · refine acond_f (decide_eq_false h) ?_
      conv => whnf
      have : k = L.length := by omega
      subst this
      rw [List.take_length]
      exact ⟨rfl, rfl⟩
theorem poly_spec : ACall Try.prog 65 [] [] fun r H => r = .ret (.sl (some (0, 0)) 1 15 15) ∧ H = [.c (ints polyL)] := by
  refine ACall.enter tok false Try.func65 rfl rfl rfl (AW_sound (ip := false) tok _ _ _ _ ?_)
  conv => whnf
  exact ⟨rfl, rfl⟩
theorem bit15 (n : Nat) (i : Nat) (hi : i < 15) : (ofI (n : Int) 15)[i]? = some ((n / 2 ^ (14 - i) % 2 : Nat) : Int) := by
  have h := ofI_get 15 (n : Int) i hi
  have hl : i < (ofI (n : Int) 15).length := by rw [ofI_length]; exact hi
  rw [get_gd hl, h, show 15 - 1 - i = 14 - i from by omega]
  rw [Int.natCast_emod, Int.natCast_ediv, Int.natCast_pow]
  rfl
set_option maxHeartbeats 4000000 in
theorem rbehind_specS (n : Nat) (x : Int) (hn : n < 32768) (hx : x = 0 ∨ x = 1) (S O : List Int) (hS : S = ofI n 15) (hO : O = ofI (stepN n x.toNat : Nat) 15) : ACall Try.prog 60 [.rs (ints S) 0 1 15, .i .i64 x] [] fun r H => ∃ c, 15 ≤ c ∧ r = .ret (.sl (some (0, 0)) 1 15 c) ∧ H = [.c (ints O)] := by
  refine ACall.gh ?_
  refine ACall.enter tok false Try.func60 rfl rfl rfl (AW_sound (ip := false) tok _ _ _ _ ?_)
  obtain ⟨y, rfl⟩ : ∃ y : Nat, x = y := ⟨x.toNat, by omega⟩
  rw [Int.toNat_natCast] at hO
  have hS1 : ∀ i, i < 15 → S[i]? = some ((n / 2 ^ (14 - i) % 2 : Nat) : Int) := fun i hi => by rw [hS]; exact bit15 n i hi
  have hO1 : ∀ i, i < 15 → O[i]? = some ((stepN n y / 2 ^ (14 - i) % 2 : Nat) : Int) := fun i hi => by rw [hO]; exact bit15 _ i hi
  have hl15 : O.length = 15 := by rw [hO]; exact ofI_length _ _
  have hu : (IntKind.i64.wrap ((((n / 2 ^ 14 % 2 : Nat) : Int)) + (y : Int))).tmod 2 = (((n / 16384 + y) % 2 : Nat) : Int) := by
    rw [w64 (by omega) (by omega), Int.tmod_eq_emod_of_nonneg (by omega)]
    omega
  conv => whnf
  refine ⟨⟨by omega, by omega⟩, ?_⟩
  conv => whnf
  refine aget_num (i := 0) rfl (hS1 0 (by omega)) ?_
  conv => whnf
  refine ⟨by omega, ?_⟩
  conv => whnf
  rw [hu]
  refine ACall.frameH [] [] rfl (args' := []) (Hc := []) rfl rfl poly_spec ?_
  rintro r H ⟨rfl, rfl⟩
  refine ⟨.inl rfl, [.c [], .c (ints polyL)], rfl, ?_⟩
  conv => whnf
  refine ALoop.ind (ip := false) tok (fun m r H => ∃ (k c : Nat), k ≤ 15 ∧ m = 15 - k ∧ k ≤ c ∧ H = [.c (ints (O.take k)), .c (ints polyL)] ∧
    r = [(8, .i .i64 k), (7, .sl (some (1, 0)) 1 15 15), (6, .sl (some (0, 0)) 1 k c), (5, .i .i64 ((n / 16384 + y) % 2 : Nat)), (0, .rs (ints S) 0 1 15)]) 15 ?_ ?_
  · exact Gh.regs [8, 7, 6, 5, 0] (Gh.of ⟨0, 0, by omega, rfl, by omega, rfl, rfl⟩)
  · rintro m r H ⟨k, c, hk, rfl, hc, rfl, rfl⟩
    conv => whnf
    by_cases h : (k : Int) < 15
    · have hk15 : k < 15 := by omega
      have hs := step_bit n y k hn hk15
      have hpl : polyL.getD k 0 = 0 ∨ polyL.getD k 0 = 1 := gd_lv (by decide) k
      have hpg : polyL[k]? = some (polyL.getD k 0) := get_gd (by exact hk15)
      have hu2 : (((n / 16384 + y) % 2 : Nat) : Int) = 0 ∨ (((n / 16384 + y) % 2 : Nat) : Int) = 1 := by omega
      generalize hU : (((n / 16384 + y) % 2 : Nat) : Int) = u at hs hu2
      generalize polyL.getD k 0 = p at hs hpl hpg
      have hm : u * p = 0 ∨ u * p = 1 := by rcases hu2 with h | h <;> rcases hpl with h' | h' <;> rw [h, h'] <;> simp
      have hnxt : O.take (k + 1) = O.take k ++ [((stepN n y / 2 ^ (14 - k) % 2 : Nat) : Int)] := by
        have h1 := hO1 k hk15
        rw [List.getElem?_eq_getElem (by omega)] at h1
        rw [List.take_succ_eq_append_getElem (by omega)]
        injection h1 with h1
        rw [h1]
      have hkl : (O.take k).length = k := by rw [List.length_take]; omega
      have hb := stepN_lt n y
      have happ : List.take (k * 1) (List.drop 0 (ints (O.take k))) = ints (O.take k) := by
        rw [List.drop_zero, Nat.mul_one, List.take_of_length_le (by rw [nums_length, hkl]; omega)]
      refine acond_t (decide_eq_true h) ?_
      conv => whnf
      by_cases h14 : k < 14
      · rw [if_pos h14] at hs
        have hwk : IntKind.i64.wrap ((k : Int) + 1) = ((k + 1 : Nat) : Int) := by rw [w64 (by omega) (by omega)]; omega
        have hv : (IntKind.i64.wrap (((n / 2 ^ (14 - (k + 1)) % 2 : Nat) : Int) + IntKind.i64.wrap (u * p))).tmod 2 = ((stepN n y / 2 ^ (14 - k) % 2 : Nat) : Int) := by
          rw [w64 (x := u * p) (by omega) (by omega), w64 (by omega) (by omega), Int.tmod_eq_emod_of_nonneg (by omega), hs, show 14 - (k + 1) = 13 - k from by omega]
        refine acond_t (decide_eq_true (by omega)) ?_
        conv => whnf
        refine ⟨⟨by rw [hwk]; omega, by rw [hwk]; omega⟩, ?_⟩
        conv => whnf
        refine aget_num (i := k + 1) (by rw [hwk]; omega) (hS1 (k + 1) (by omega)) ?_
        conv => whnf
        refine ⟨⟨by omega, h⟩, ?_⟩
        conv => whnf
        refine aget_num (i := k) (by omega) hpg ?_
        conv => whnf
        refine ⟨by omega, ?_⟩
        conv => whnf
        refine ⟨by show 0 + k * 1 ≤ (ints _).length; rw [nums_length, hkl]; omega, ?_⟩
        conv => whnf
        refine ⟨by show 1 ≤ (1 : Nat); omega, ?_⟩
        conv => whnf
        refine ⟨rfl, by (try dsimp only); omega, by omega, fun g hg => ?_⟩
        conv => whnf
        refine Gh.regs [8, 7, 6, 5, 0] (Gh.sel [3, 1] rfl (Gh.of ⟨15 - (k + 1), by omega, k + 1, g, by omega, rfl, hg, ?_, ?_⟩))
        · show [Blk.c (subs _ (List.take (k * 1) (List.drop 0 (ints (O.take k))) ++ ints [(IntKind.i64.wrap (((n / 2 ^ (14 - (k + 1)) % 2 : Nat) : Int) + IntKind.i64.wrap (u * p))).tmod 2])), Blk.c (subs _ (ints polyL))] = _
          rw [hv, happ, ← nums_append, subs_nums, subs_nums, hnxt]
        · refine keep_eq (show keepR _ _ = [_, _, _, _, _] from rfl) ?_
          simp only [subG, sub, subs_nums]
          rw [hwk]; rfl
      · rw [if_neg h14, Int.zero_add] at hs
        have hv : (IntKind.i64.wrap (0 + IntKind.i64.wrap (u * p))).tmod 2 = ((stepN n y / 2 ^ (14 - k) % 2 : Nat) : Int) := by
          rw [w64 (x := u * p) (by omega) (by omega), Int.zero_add, w64 (by omega) (by omega), Int.tmod_eq_emod_of_nonneg (by omega), hs]
        refine acond_f (decide_eq_false (by omega)) ?_
        conv => whnf
        refine ⟨⟨by omega, h⟩, ?_⟩
        conv => whnf
        refine aget_num (i := k) (by omega) hpg ?_
        conv => whnf
        refine ⟨by omega, ?_⟩
        conv => whnf
        refine ⟨by show 0 + k * 1 ≤ (ints _).length; rw [nums_length, hkl]; omega, ?_⟩
        conv => whnf
        refine ⟨by show 1 ≤ (1 : Nat); omega, ?_⟩
        conv => whnf
        refine ⟨rfl, by (try dsimp only); omega, by omega, fun g hg => ?_⟩
        conv => whnf
        refine Gh.regs [8, 7, 6, 5, 0] (Gh.sel [3, 1] rfl (Gh.of ⟨15 - (k + 1), by omega, k + 1, g, by omega, rfl, hg, ?_, ?_⟩))
        · show [Blk.c (subs _ (List.take (k * 1) (List.drop 0 (ints (O.take k))) ++ ints [(IntKind.i64.wrap (0 + IntKind.i64.wrap (u * p))).tmod 2])), Blk.c (subs _ (ints polyL))] = _
          rw [hv, happ, ← nums_append, subs_nums, subs_nums, hnxt]
        · refine keep_eq (show keepR _ _ = [_, _, _, _, _] from rfl) ?_
          simp only [subG, sub, subs_nums]
          rw [w64 (by omega) (by omega)]; rfl
    · have hk15 : k = 15 := by omega
      refine acond_f (decide_eq_false h) ?_
      conv => whnf
      rw [hk15] at hc ⊢
      refine GhR.sel [0] rfl (GhR.of ⟨c, hc, rfl, ?_⟩)
      show [Blk.c (subs _ (ints _))] = _
      rw [subs_nums, List.take_of_length_le (by omega)]
theorem rbehind_spec (n : Nat) (x : Int) (hn : n < 32768) (hx : x = 0 ∨ x = 1) : ACall Try.prog 60 [.rs (ints (ofI n 15)) 0 1 15, .i .i64 x] [] fun r H => ∃ c, 15 ≤ c ∧ r = .ret (.sl (some (0, 0)) 1 15 c) ∧ H = [.c (ints (ofI (stepN n x.toNat : Nat) 15))] :=
  rbehind_specS n x hn hx _ _ rfl rfl
set_option maxHeartbeats 4000000 in
theorem rsum_spec (L : List Int) (hl : isLv L) (hL : L.length < 1000000) : ACall Try.prog 26 [.rs (ints L) 0 1 L.length] [] fun r H => ∃ c, 15 ≤ c ∧ r = .ret (.sl (some (0, 0)) 1 15 c) ∧ H = [.c (ints (ofI (crcN L : Nat) 15))] := by
  refine ACall.enter tok false Try.func26 rfl rfl rfl (AW_sound (ip := false) tok _ _ _ _ ?_)
  conv => whnf
  suffices h : ACall Try.prog 45 [.rs (ints L) 0 1 L.length] [] fun r H => ∃ c, 15 ≤ c ∧ r = .ret (.sl (some (0, 0)) 1 15 c) ∧ H = [.c (ints (ofI (crcN L : Nat) 15))] by
    refine ACall.mono h ?_
    rintro r H ⟨c, hc, rfl, rfl⟩
    conv => whnf
    exact ⟨c, hc, rfl, rfl⟩
  refine ACall.gh ?_
  refine ACall.enter tok false Try.func45 rfl rfl rfl (AW_sound (ip := false) tok _ _ _ _ ?_)
  conv => whnf
  refine ⟨by decide, ?_⟩
  conv => whnf
  refine ALoop.ind (ip := false) tok (fun m r H => ∃ (k c : Nat), k ≤ L.length ∧ m = L.length - k ∧ 15 ≤ c ∧ H = [.c (ints (ofI (crcN (L.take k) : Nat) 15))] ∧
    r = [(4, .i .i64 k), (3, .sl (some (0, 0)) 1 15 c), (0, .rs (ints L) 0 1 L.length)]) L.length ?_ ?_
  · exact Gh.regs [4, 3, 0] (Gh.of ⟨0, 15, by omega, by omega, by omega, by kernel_rfl, rfl⟩)
  · rintro m r H ⟨k, c, hk, rfl, hc, rfl, rfl⟩
    conv => whnf
    by_cases h : (k : Int) < L.length
    · have hkl : k < L.length := by omega
      have hx := hl _ (List.getElem_mem hkl)
      have hb := rbehind_spec (crcN (L.take k)) L[k] (crcN_lt _) hx
      rw [← crcN_snoc, ← List.take_succ_eq_append_getElem hkl] at hb
      refine acond_t (decide_eq_true h) ?_
      conv => whnf
      refine ⟨⟨by omega, h⟩, ?_⟩
      conv => whnf
      refine aget_num (i := k) (by omega) (List.getElem?_eq_getElem hkl) ?_
      conv => whnf
      refine ACall.frameH [] [0] rfl (args' := [.rs (ints (ofI (crcN (L.take k) : Nat) 15)) 0 1 15, .i .i64 L[k]]) (Hc := []) (by show [AV.rs (subs _ (ints _)) _ _ _, _] = _; rw [subs_nums]; rfl) rfl hb ?_
      rintro r H ⟨c2, hc2, rfl, rfl⟩
      refine ⟨.inr ⟨rfl, by simp [nroH, nroB, nros_nums]⟩, [.c (ints (ofI (crcN (L.take k) : Nat) 15)), .c (ints (ofI (crcN (L.take (k + 1)) : Nat) 15))], (by show [_, Blk.c (subs _ (ints _))] = _; first | (rw [subs_nums]; done) | (rw [subs_nums]; rfl)), ?_⟩
      conv => whnf
      refine Gh.regs [4, 3, 0] (Gh.sel [1] rfl (Gh.of ⟨L.length - (k + 1), by omega, k + 1, c2, by omega, rfl, hc2, (by show [Blk.c (subs _ (ints _))] = _; rw [subs_nums]), ?_⟩))
      refine keep_eq (show keepR _ _ = [_, _, _] from rfl) ?_
      simp only [subG, sub, subs_nums]
      rw [w64 (by omega) (by omega)]; rfl
    · have hk2 : k = L.length := by omega
      refine acond_f (decide_eq_false h) ?_
      conv => whnf
      refine GhR.sel [0] rfl (GhR.of ⟨c, hc, rfl, ?_⟩)
      show [Blk.c (subs _ (ints _))] = _
      rw [subs_nums, hk2, List.take_length]
end Go.AK
