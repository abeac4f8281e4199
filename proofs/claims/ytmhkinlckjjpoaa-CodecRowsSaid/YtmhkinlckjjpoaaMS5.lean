/- Texts SCBack, SCRows, STop: an evaluator of the model's code, proved sound, and what the program's functions do, for all inputs. -/
import Derived.Test.YtmhkinlckjjpoaaMS4
namespace Go.AK
open Go Go.RowKit Go.Proofs
set_option linter.unusedVariables false
set_option maxRecDepth 100000
theorem enc_short {F : Fr} (hm : F.may) (ack : Bool) {n : Nat} (hn : n < (F.encL ack).length) : dec ((F.encL ack).take n) = (Fr0, (n : Int), 13) := by
  rw [dec_lv (isLv_take (enc_lv hm ack) n)]
  exact dec_short hm _ 13 (by rw [F.enc_len] at hn; exact hn)
set_option maxHeartbeats 4000000 in
theorem lawBack (F : Fr) (hF : F.ok) (B : List Int) (left : Int) (hleft : -9223372036854775808 ≤ left ∧ left ≤ 9223372036854775807) : ACall Try.prog 4 [F.av, .rs (ints B) 0 1 B.length, .i .i64 left] [] fun r H => r = .ret (.b true) ∧ H = [] := by
  refine ACall.gh ?_
  refine ACall.enter tok false Try.func4 rfl rfl rfl (AW_sound (ip := false) tok _ _ _ _ ?_)
  conv => whnf
  by_cases g : (B.length : Int) > 40
  · refine acond_t (decide_eq_true g) ?_
    conv => whnf
    refine ACall.frameH [] [] rfl (args' := []) (Hc := []) rfl rfl awake6_spec ?_
    rintro r H ⟨rfl, rfl⟩
    refine ⟨.inl rfl, [.c F.cells], rfl, ?_⟩
    conv => whnf
    exact GhR.sel [] rfl (GhR.of ⟨rfl, rfl⟩)
  refine acond_f (decide_eq_false g) ?_
  conv => whnf
  refine ⟨by omega, ?_⟩
  conv => whnf
  generalize hack : (left.tmod 2 == 0) = ack
  refine ACall.frameH [] [] rfl (args' := [F.av, .b ack]) (Hc := []) rfl rfl (encode_spec F hF ack) ?_
  rintro r H (⟨hno, rfl, rfl⟩ | ⟨hm, c, hc, rfl, rfl⟩)
  · refine ⟨.inl rfl, [.c F.cells], rfl, ?_⟩
    conv => whnf
    have hchk := check_spec F hF
    rw [Fr.bad hno] at hchk
    refine ACall.frameH [] [] rfl (args' := [F.av]) (Hc := []) rfl rfl hchk ?_
    rintro r H ⟨rfl, rfl⟩
    refine ⟨.inl rfl, [.c F.cells], rfl, ?_⟩
    conv => whnf
    refine ACall.frameH [] [] rfl (args' := []) (Hc := []) rfl rfl awake6_spec ?_
    rintro r H ⟨rfl, rfl⟩
    refine ⟨.inl rfl, [.c F.cells], rfl, ?_⟩
    conv => whnf
    exact GhR.sel [] rfl (GhR.of ⟨rfl, rfl⟩)
  have hle := enc_le hm ack
  have ht1 := enc_dec hm hF ack B
  have ht2 := fun n => enc_short (n := n) hm ack
  generalize F.encL ack = E at hc hle ht1 ht2
  refine ⟨.inl rfl, [.c F.cells, .c (ints E)], (by show [_, Blk.c (subs _ (ints _))] = _; first | (rw [subs_nums]; done) | (rw [subs_nums]; rfl)), ?_⟩
  conv => whnf
  refine ⟨by show 0 ≤ (0 : Nat); omega, ?_⟩
  conv => whnf
  refine ⟨by show 0 + E.length * 1 ≤ (ints E).length; rw [nums_length]; omega, ?_⟩
  conv => whnf
  have hE1 : List.take (E.length * 1) (List.drop 0 (ints E)) = ints E := by rw [List.drop_zero, Nat.mul_one, List.take_of_length_le (by rw [nums_length]; omega)]
  refine ⟨by show ones (List.take (E.length * 1) (List.drop 0 (ints E))) = true; rw [hE1]; exact ones_nums _ _, by (try dsimp only); omega, by omega, fun g1 hg1 => ?_⟩
  conv => whnf
  refine ⟨by show 0 + (0 + E.length) * 1 ≤ List.length ([] ++ List.take (E.length * 1) (List.drop 0 (ints E))); rw [hE1, List.nil_append, nums_length]; omega, ?_⟩
  conv => whnf
  refine ⟨by show 0 + B.length * 1 ≤ (ints B).length; rw [nums_length]; omega, ?_⟩
  conv => whnf
  have hB1 : List.take (B.length * 1) (List.drop 0 (ints B)) = ints B := by rw [List.drop_zero, Nat.mul_one, List.take_of_length_le (by rw [nums_length]; omega)]
  refine ⟨by show ones (List.take (B.length * 1) (List.drop 0 (ints B))) = true; rw [hB1]; exact ones_nums _ _, by (try dsimp only); omega, by omega, fun g2 hg2 => ?_⟩
  conv => whnf
  have hEB : List.take ((0 + E.length) * 1) (List.drop 0 ([] ++ List.take (E.length * 1) (List.drop 0 (ints E)))) ++ List.take (B.length * 1) (List.drop 0 (ints B)) = ints (E ++ B) := by
    rw [hE1, hB1, List.nil_append, List.drop_zero, List.take_of_length_le (by rw [nums_length]; omega), ← nums_append]
  have h3 := decode_spec (E ++ B) (by rw [List.length_append]; omega)
  rw [ht1] at h3
  have hlEB : (E ++ B).length = 0 + E.length + B.length := by rw [List.length_append]; omega
  refine ACall.frameH [] [4] rfl (args' := [.rs (ints (E ++ B)) 0 1 (E ++ B).length]) (Hc := []) (by
    show [AV.rs (subs _ (List.take ((0 + E.length) * 1) (List.drop 0 ([] ++ List.take (E.length * 1) (List.drop 0 (ints E)))) ++ List.take (B.length * 1) (List.drop 0 (ints B)))) 0 1 (0 + E.length + B.length)] = _
    rw [hEB, subs_nums, hlEB]) rfl h3 ?_
  rintro r H ⟨rfl, rfl⟩
  refine ⟨.inr ⟨rfl, rfl⟩, [.c F.cells, .c (ints E), .dead, .dead, .c (ints (E ++ B))], (by show [_, _, _, _, Blk.c (List.take ((0 + E.length) * 1) (List.drop 0 ([] ++ List.take (E.length * 1) (List.drop 0 (ints E)))) ++ List.take (B.length * 1) (List.drop 0 (ints B)))] = _; rw [hEB]), ?_⟩
  conv => whnf
  refine ⟨by show 0 + 12 ≤ 12; omega, ?_⟩
  conv => whnf
  refine ⟨flatFrame, ?_⟩
  conv => whnf
  have hEE : ((E.length : Int) != (E.length : Int)) = false := bne_self_eq_false _
  repeat (first | (refine acond_f (frDiff F) ?_; conv => whnf) | (refine acond_f hEE ?_; conv => whnf))
  by_cases hl0 : left < 0
  · repeat (refine acond_t (decide_eq_true hl0) ?_; conv => whnf)
    refine ACall.frameH [] [] rfl (args' := []) (Hc := []) rfl rfl awake6_spec ?_
    rintro r H ⟨rfl, rfl⟩
    refine ⟨.inl rfl, [.c F.cells, .c (ints E), .dead, .dead, .c (ints (E ++ B)), .c F.cells], rfl, ?_⟩
    conv => whnf
    exact GhR.sel [] rfl (GhR.of ⟨rfl, rfl⟩)
  repeat (refine acond_f (decide_eq_false hl0) ?_; conv => whnf)
  by_cases hl1 : left ≥ (E.length : Int)
  · repeat (refine acond_t (decide_eq_true hl1) ?_; conv => whnf)
    refine ACall.frameH [] [] rfl (args' := []) (Hc := []) rfl rfl awake6_spec ?_
    rintro r H ⟨rfl, rfl⟩
    refine ⟨.inl rfl, [.c F.cells, .c (ints E), .dead, .dead, .c (ints (E ++ B)), .c F.cells], rfl, ?_⟩
    conv => whnf
    exact GhR.sel [] rfl (GhR.of ⟨rfl, rfl⟩)
  repeat (refine acond_f (decide_eq_false hl1) ?_; conv => whnf)
  obtain ⟨n, rfl⟩ : ∃ n : Nat, left = n := ⟨left.toNat, by omega⟩
  refine ⟨by omega, ?_⟩
  conv => whnf
  have h4 := decodeCut_spec E n (by omega) (by omega)
  rw [ht2 n (by omega)] at h4
  refine ACall.frameH [] [1] rfl (args' := [.rs (ints E) 0 1 n]) (Hc := []) (by show [AV.rs (subs _ (ints _)) _ _ _] = _; first | (rw [subs_nums]; done) | (rw [subs_nums]; rfl)) rfl h4 ?_
  rintro r H ⟨rfl, rfl⟩
  refine ⟨.inr ⟨rfl, rfl⟩, [.c F.cells, .c (ints E), .dead, .dead, .c (ints (E ++ B)), .c F.cells], rfl, ?_⟩
  conv => whnf
  refine ⟨by show 0 + 12 ≤ 12; omega, ?_⟩
  conv => whnf
  refine ⟨flatFrame, ?_⟩
  conv => whnf
  have hnn : (((n : Nat) : Int) == ((n : Nat) : Int)) = true := beq_self_eq_true _
  repeat (refine acond_t hnn ?_; conv => whnf)
  refine ACall.frameH [] [] rfl (args' := []) (Hc := []) rfl rfl awake6_spec ?_
  rintro r H ⟨rfl, rfl⟩
  refine ⟨.inl rfl, [.c F.cells, .c (ints E), .dead, .dead, .c (ints (E ++ B)), .c F.cells, .c Fr0.cells], rfl, ?_⟩
  conv => whnf
  repeat (refine acond_t hnn ?_; conv => whnf)
  exact GhR.sel [] rfl (GhR.of ⟨rfl, rfl⟩)
end Go.AK
namespace Go.AK
open Go Go.RowKit Go.Proofs
set_option linter.unusedVariables false
set_option maxRecDepth 100000
def rowsL (L : List Fr) (ack : Bool) (i : Nat) : List Int := ((L.take i).map fun F => F.encL ack).flatten
theorem rows_next {L : List Fr} {ack : Bool} {i : Nat} (h : i < L.length) : rowsL L ack (i + 1) = rowsL L ack i ++ L[i].encL ack := by
  unfold rowsL
  rw [List.take_succ_eq_append_getElem h, List.map_append, List.flatten_append]
  simp
theorem rows_le {L : List Fr} {ack : Bool} {i : Nat} (hm : ∀ j (h : j < L.length), j < i → L[j].may) (hi : i ≤ L.length) : (rowsL L ack i).length ≤ 200 * i := by
  induction i with
  | zero => simp [rowsL]
  | succ i ih =>
    have := enc_le (hm i (by omega) (by omega)) ack
    have := ih (fun j h1 h2 => hm j h1 (by omega)) (by omega)
    rw [rows_next (by omega), List.length_append]; omega
theorem rows_pre {L : List Fr} {ack : Bool} {i n : Nat} (hi : i ≤ n) (hn : n ≤ L.length) : ∃ T, rowsL L ack n = rowsL L ack i ++ T := by
  induction n with
  | zero => exact ⟨[], by rw [show i = 0 from by omega]; simp⟩
  | succ n ih =>
    by_cases e : i = n + 1
    · exact ⟨[], by rw [e]; simp⟩
    · obtain ⟨T, hT⟩ := ih (by omega) (by omega)
      exact ⟨T ++ L[n].encL ack, by rw [rows_next (by omega), hT, List.append_assoc]⟩
theorem dec_nil : dec [] = (Fr0, 0, 13) := rfl
set_option maxHeartbeats 8000000 in
theorem lawRows (L : List Fr) (hL : ∀ F ∈ L, F.ok) (ack : Bool) : ACall Try.prog 7 [.rs (frs L) 0 12 L.length, .b ack] [] fun r H => r = .ret (.b true) ∧ H = [] := by
  refine ACall.gh ?_
  refine ACall.enter tok false Try.func7 rfl rfl rfl (AW_sound (ip := false) tok _ _ _ _ ?_)
  conv => whnf
  by_cases g : (L.length : Int) > 6
  · refine acond_t (decide_eq_true g) ?_
    conv => whnf
    refine ACall.mono awake6_spec ?_
    rintro r H ⟨rfl, rfl⟩
    conv => whnf
    exact GhR.of ⟨rfl, rfl⟩
  refine acond_f (decide_eq_false g) ?_
  conv => whnf
  refine ALoop.ind (ip := false) tok (fun m r H => ∃ (i : Nat) (s : AV), i ≤ L.length ∧ m = L.length - i ∧ (∀ j (h : j < L.length), j < i → L[j].may) ∧
    ((i = 0 ∧ s = .sl none 0 0 0 ∧ H = []) ∨ (0 < i ∧ ∃ c, (rowsL L ack i).length ≤ c ∧ s = .sl (some (0, 0)) 1 (rowsL L ack i).length c ∧ H = [.c (ints (rowsL L ack i))])) ∧
    r = [(6, .i .i64 i), (5, s), (1, .b ack), (0, .rs (frs L) 0 12 L.length)]) L.length ?_ ?_
  · exact Gh.regs [6, 5, 1, 0] (Gh.of ⟨0, .sl none 0 0 0, by omega, by omega, fun j _ h => by omega, .inl ⟨rfl, rfl, rfl⟩, rfl⟩)
  · rintro m r H ⟨i, s, hi, rfl, hmay, hst, rfl⟩
    have hrl := rows_le (ack := ack) hmay hi
    by_cases h : (i : Int) < L.length
    · have hil : i < L.length := by omega
      have hF := hL _ (List.getElem_mem hil)
      have hen := encode_spec L[i] hF ack
      have hchk := check_spec L[i] hF
      have hnx := rows_next (ack := ack) hil
      rcases hst with ⟨hi0, rfl, rfl⟩ | ⟨hi0, c, hc, rfl, rfl⟩
      · have hz : rowsL L ack i = [] := by rw [hi0]; rfl
        conv => whnf
        refine acond_t (decide_eq_true h) ?_
        conv => whnf
        refine ⟨⟨by omega, h⟩, ?_⟩
        conv => whnf
        refine aget_fr (k := i) (by omega) hil ?_
        conv => whnf
        refine ACall.mono hen ?_
        rintro r H (⟨hno, rfl, rfl⟩ | ⟨hm, c2, hc2, rfl, rfl⟩)
        · rw [Fr.bad hno] at hchk
          conv => whnf
          refine ⟨⟨by omega, h⟩, ?_⟩
          conv => whnf
          refine aget_fr (k := i) (by omega) hil ?_
          conv => whnf
          refine ACall.mono hchk ?_
          rintro r H ⟨rfl, rfl⟩
          conv => whnf
          refine ACall.mono awake6_spec ?_
          rintro r H ⟨rfl, rfl⟩
          conv => whnf
          exact GhR.sel [] rfl (GhR.of ⟨rfl, rfl⟩)
        · have hle := enc_le hm ack
          generalize L[i].encL ack = E at hc2 hle hnx
          conv => whnf
          refine ⟨by show 0 + E.length * 1 ≤ (ints E).length; rw [nums_length]; omega, ?_⟩
          conv => whnf
          have hE1 : List.take (E.length * 1) (List.drop 0 (ints E)) = ints E := by rw [List.drop_zero, Nat.mul_one, List.take_of_length_le (by rw [nums_length]; omega)]
          refine acond_f (by cases hq : E.length; omega; rfl) ?_
          refine ⟨by show ones (List.take (E.length * 1) (List.drop 0 (ints E))) = true; rw [hE1]; exact ones_nums _ _, by (try dsimp only); omega, by omega, fun g1 hg1 => ?_⟩
          conv => whnf
          have hnx2 : rowsL L ack (i + 1) = E := by rw [hnx, hz]; rfl
          refine Gh.regs [6, 5, 1, 0] (Gh.sel [1] rfl (Gh.of ⟨L.length - (i + 1), by omega, i + 1, .sl (some (0, 0)) 1 E.length g1, by omega, rfl, ?_, .inr ⟨by omega, g1, by rw [hnx2]; exact hg1, by rw [hnx2], ?_⟩, ?_⟩))
          · intro j hj hj2
            by_cases e : j = i
            · subst e; exact hm
            · exact hmay j hj (by omega)
          · show [Blk.c (subs _ (List.take (E.length * 1) (List.drop 0 (ints E))))] = _
            rw [hE1, subs_nums, hnx2]
          · refine keep_eq (show keepR _ _ = [_, _, _, _] from rfl) ?_
            simp only [subG, sub, subs_frs]
            rw [w64 (by omega) (by omega)]; rfl
      · conv => whnf
        refine acond_t (decide_eq_true h) ?_
        conv => whnf
        refine ⟨⟨by omega, h⟩, ?_⟩
        conv => whnf
        refine aget_fr (k := i) (by omega) hil ?_
        conv => whnf
        refine ACall.frameH [] [] rfl (args' := [L[i].av, .b ack]) (Hc := []) rfl rfl hen ?_
        rintro r H (⟨hno, rfl, rfl⟩ | ⟨hm, c2, hc2, rfl, rfl⟩)
        · refine ⟨.inl rfl, [.c (ints (rowsL L ack i))], rfl, ?_⟩
          rw [Fr.bad hno] at hchk
          conv => whnf
          refine ⟨⟨by omega, h⟩, ?_⟩
          conv => whnf
          refine aget_fr (k := i) (by omega) hil ?_
          conv => whnf
          refine ACall.frameH [] [] rfl (args' := [L[i].av]) (Hc := []) rfl rfl hchk ?_
          rintro r H ⟨rfl, rfl⟩
          refine ⟨.inl rfl, [.c (ints (rowsL L ack i))], rfl, ?_⟩
          conv => whnf
          refine ACall.frameH [] [] rfl (args' := []) (Hc := []) rfl rfl awake6_spec ?_
          rintro r H ⟨rfl, rfl⟩
          refine ⟨.inl rfl, [.c (ints (rowsL L ack i))], rfl, ?_⟩
          conv => whnf
          exact GhR.sel [] rfl (GhR.of ⟨rfl, rfl⟩)
        · have hle := enc_le hm ack
          generalize L[i].encL ack = E at hc2 hle hnx
          generalize hA : rowsL L ack i = A at hrl hc hnx
          refine ⟨.inl rfl, [.c (ints A), .c (ints E)], (by show [_, Blk.c (subs _ (ints _))] = _; first | (rw [subs_nums]; done) | (rw [subs_nums]; rfl)), ?_⟩
          conv => whnf
          refine ⟨by show 0 + A.length * 1 ≤ (ints A).length; rw [nums_length]; omega, ?_⟩
          conv => whnf
          refine ⟨by show 0 + E.length * 1 ≤ (ints E).length; rw [nums_length]; omega, ?_⟩
          conv => whnf
          have hE1 : List.take (E.length * 1) (List.drop 0 (ints E)) = ints E := by rw [List.drop_zero, Nat.mul_one, List.take_of_length_le (by rw [nums_length]; omega)]
          have hA1 : List.take (A.length * 1) (List.drop 0 (ints A)) = ints A := by rw [List.drop_zero, Nat.mul_one, List.take_of_length_le (by rw [nums_length]; omega)]
          refine ⟨by show ones (List.take (E.length * 1) (List.drop 0 (ints E))) = true; rw [hE1]; exact ones_nums _ _, by (try dsimp only); omega, by omega, fun g1 hg1 => ?_⟩
          conv => whnf
          have hln : (rowsL L ack (i + 1)).length = A.length + E.length := by rw [hnx, List.length_append]
          refine Gh.regs [6, 5, 1, 0] (Gh.sel [2] rfl (Gh.of ⟨L.length - (i + 1), by omega, i + 1, .sl (some (0, 0)) 1 (A.length + E.length) g1, by omega, rfl, ?_, .inr ⟨by omega, g1, by rw [hln]; exact hg1, by rw [hln], ?_⟩, ?_⟩))
          · intro j hj hj2
            by_cases e : j = i
            · subst e; exact hm
            · exact hmay j hj (by omega)
          · show [Blk.c (subs _ (List.take (A.length * 1) (List.drop 0 (ints A)) ++ List.take (E.length * 1) (List.drop 0 (ints E))))] = _
            rw [hE1, hA1, ← nums_append, subs_nums, hnx]
          · refine keep_eq (show keepR _ _ = [_, _, _, _] from rfl) ?_
            simp only [subG, sub, subs_frs]
            rw [w64 (by omega) (by omega)]; rfl
    · have hie : i = L.length := by omega
      have hmy : ∀ j (h : j < L.length), L[j].may := fun j h => hmay j h (by omega)
      rcases hst with ⟨hi0, rfl, rfl⟩ | ⟨hi0, c, hc, rfl, rfl⟩
      · -- none at all
        have hL0 : L.length = 0 := by omega
        conv => whnf
        refine acond_f (decide_eq_false h) ?_
        conv => whnf
        refine ALoop.ind (ip := false) tok (fun m r H => H = [] ∧ r = [(10, .i .i64 0), (9, .i .i64 0), (5, .sl none 0 0 0), (0, .rs (frs L) 0 12 L.length)]) 0 ?_ ?_
        · exact Gh.regs [10, 9, 5, 0] (Gh.of ⟨rfl, rfl⟩)
        · rintro m r H ⟨rfl, rfl⟩
          have h3 := decode_spec [] (by simp)
          rw [dec_nil] at h3
          conv => whnf
          refine acond_f (decide_eq_false (by omega)) ?_
          conv => whnf
          refine ⟨by omega, ?_⟩
          conv => whnf
          refine ACall.mono (ACall.args h3 (VLe.nilsl VLe.nil)) ?_
          rintro r H ⟨rfl, rfl⟩
          conv => whnf
          refine ⟨by show 0 + 12 ≤ 12; omega, ?_⟩
          conv => whnf
          refine ACall.frameH [] [] rfl (args' := []) (Hc := []) rfl rfl awake6_spec ?_
          rintro r H ⟨rfl, rfl⟩
          refine ⟨.inl rfl, [.c Fr0.cells], rfl, ?_⟩
          conv => whnf
          exact GhR.sel [] rfl (GhR.of ⟨rfl, rfl⟩)
      · conv => whnf
        refine acond_f (decide_eq_false h) ?_
        conv => whnf
        rw [hie] at hc hrl ⊢
        generalize hA : rowsL L ack L.length = A at hc hrl
        have hst2 : ∀ k (hk : k < L.length), dec (A.drop (rowsL L ack k).length) = (L[k], ((L[k].encL ack).length : Int), 0) ∧ (rowsL L ack k).length + (L[k].encL ack).length ≤ A.length := by
          intro k hk
          obtain ⟨T, hT⟩ := rows_pre (ack := ack) (show k + 1 ≤ L.length from hk) (Nat.le_refl _)
          rw [rows_next hk, hA, List.append_assoc] at hT
          rw [hT, List.drop_left]
          refine ⟨enc_dec (hmy k hk) (hL _ (List.getElem_mem hk)) ack T, ?_⟩
          rw [List.length_append, List.length_append]; omega
        refine ALoop.ind (ip := false) tok (fun m r H => ∃ (k : Nat), k ≤ L.length ∧ m = L.length - k ∧ H = [.c (ints A)] ∧
          r = [(10, .i .i64 k), (9, .i .i64 (rowsL L ack k).length), (5, .sl (some (0, 0)) 1 A.length c), (0, .rs (frs L) 0 12 L.length)]) L.length ?_ ?_
        · exact Gh.regs [10, 9, 5, 0] (Gh.of ⟨0, by omega, by omega, rfl, rfl⟩)
        · rintro m r H ⟨k, hk, rfl, rfl, rfl⟩
          by_cases h2 : (k : Int) < L.length
          · have hkl : k < L.length := by omega
            have hmk := hmy k hkl
            have hFk := hL _ (List.getElem_mem hkl)
            obtain ⟨hd, hlk⟩ := hst2 k hkl
            have hle := enc_le hmk ack
            have hel := L[k].enc_len ack
            have hnl : (rowsL L ack (k + 1)).length = (rowsL L ack k).length + (L[k].encL ack).length := by rw [rows_next hkl, List.length_append]
            have hlen := length_spec L[k] hFk
            generalize (rowsL L ack k).length = a at hd hlk hnl
            generalize (L[k].encL ack).length = b at hd hlk hle hel hnl
            conv => whnf
            refine acond_t (decide_eq_true h2) ?_
            conv => whnf
            refine acond_f (decide_eq_false (by omega)) ?_
            conv => whnf
            refine ⟨by omega, ?_⟩
            conv => whnf
            have h3 := decode_spec (cut A a A.length) (by rw [cut_length _ _ _ (Nat.le_refl _)]; omega)
            have hcut : cut A a A.length = A.drop a := by unfold cut; rw [List.take_length]
            have h4 := ACall.args h3 (VLe.cut (a := a) (b := A.length) (o := a) (n := A.length - a) (by omega) (Nat.le_refl _) rfl rfl VLe.nil)
            rw [hcut, hd] at h4
            refine ACall.frameH [] [0] rfl (args' := [.rs (ints A) a 1 (A.length - a)]) (Hc := []) (by
              show [AV.rs (subs _ (ints _)) (0 + ((a : Nat) : Int).toNat * 1) 1 (A.length - ((a : Nat) : Int).toNat)] = _
              rw [subs_nums, Int.toNat_natCast, show 0 + a * 1 = a from by omega]) rfl h4 ?_
            rintro r H ⟨rfl, rfl⟩
            refine ⟨.inr ⟨rfl, rfl⟩, [.c (ints A)], rfl, ?_⟩
            conv => whnf
            refine ⟨by show 0 + 12 ≤ 12; omega, ?_⟩
            conv => whnf
            refine ⟨⟨by omega, h2⟩, ?_⟩
            conv => whnf
            refine aget_fr (k := k) (by omega) hkl ?_
            conv => whnf
            refine ACall.frameH [] [] rfl (args' := [L[k].av]) (Hc := []) rfl rfl hlen ?_
            rintro r H ⟨rfl, ⟨hno, _⟩ | ⟨_, rfl⟩⟩
            · exact absurd hmk hno
            refine ⟨.inl rfl, [.c (ints A), .c L[k].cells], rfl, ?_⟩
            rw [← hel]
            conv => whnf
            refine ADraw.of tok mixed false [0, 1, 2, 3, 4, 5, 6, 7, 8, 9, 10, 11, 12, 13, 14, 15, 16, 17, 18, 19, 20, 21, 22, 23, 24, 25, 26, 27, 28, 29, 30] [] (by kernel_rfl) (fun _ _ _ _ h => h) ?_
            conv => whnf
            refine ⟨⟨by omega, h2⟩, ?_⟩
            conv => whnf
            refine aget_fr (k := k) (by omega) hkl ?_
            conv => whnf
            refine ⟨flatFrame, ?_⟩
            conv => whnf
            have hbb : ((b : Int) != (b : Int)) = false := bne_self_eq_false _
            have hb1 : decide ((b : Int) < 1) = false := decide_eq_false (by omega)
            have hb2 : decide ((b : Int) > IntKind.i64.wrap ((A.length : Int) - a)) = false := decide_eq_false (by rw [w64 (by omega) (by omega)]; omega)
            repeat (first | (refine acond_f (frDiff L[k]) ?_; conv => whnf) | (refine acond_f hbb ?_; conv => whnf) | (refine acond_f hb1 ?_; conv => whnf) | (refine acond_f hb2 ?_; conv => whnf))
            refine Gh.regs [10, 9, 5, 0] (Gh.sel [0] rfl (Gh.of ⟨L.length - (k + 1), by omega, k + 1, by omega, rfl, (by show [Blk.c (subs _ (ints _))] = _; rw [subs_nums]), ?_⟩))
            refine keep_eq (show keepR _ _ = [_, _, _, _] from rfl) ?_
            simp only [subG, sub, subs_frs]
            rw [w64 (x := (k : Int) + 1) (by omega) (by omega), w64 (by omega) (by omega), hnl]; rfl
          · have hke : k = L.length := by omega
            have hAl : (rowsL L ack k).length = A.length := by rw [hke, hA]
            rw [hAl]
            conv => whnf
            refine acond_f (decide_eq_false h2) ?_
            conv => whnf
            refine acond_f (decide_eq_false (by omega)) ?_
            conv => whnf
            refine ⟨by omega, ?_⟩
            conv => whnf
            have h3 := decode_spec [] (by simp)
            rw [dec_nil] at h3
            have hv : VLe [AV.rs (ints A) A.length 1 0] [AV.rs (ints []) 0 1 ([] : List Int).length] := by
              have := VLe.cut (L := A) (a := A.length) (b := A.length) (o := A.length) (n := 0) (by omega) (Nat.le_refl _) rfl (by omega) VLe.nil
              rwa [show cut A A.length A.length = [] from by unfold cut; rw [List.take_length, List.drop_length]] at this
            refine ACall.frameH [] [0] rfl (args' := [.rs (ints A) A.length 1 0]) (Hc := []) (by
              show [AV.rs (subs _ (ints _)) (0 + ((A.length : Nat) : Int).toNat * 1) 1 (A.length - ((A.length : Nat) : Int).toNat)] = _
              rw [subs_nums, Int.toNat_natCast, Nat.sub_self, show 0 + A.length * 1 = A.length from by omega]) rfl (ACall.args h3 hv) ?_
            rintro r H ⟨rfl, rfl⟩
            refine ⟨.inr ⟨rfl, rfl⟩, [.c (ints A)], rfl, ?_⟩
            conv => whnf
            refine ⟨by show 0 + 12 ≤ 12; omega, ?_⟩
            conv => whnf
            have hEE : ((A.length : Int) == (A.length : Int)) = true := beq_self_eq_true _
            repeat (refine acond_t hEE ?_; conv => whnf)
            refine ACall.frameH [] [] rfl (args' := []) (Hc := []) rfl rfl awake6_spec ?_
            rintro r H ⟨rfl, rfl⟩
            refine ⟨.inl rfl, [.c (ints A), .c Fr0.cells], rfl, ?_⟩
            conv => whnf
            repeat (refine acond_t hEE ?_; conv => whnf)
            exact GhR.sel [] rfl (GhR.of ⟨rfl, rfl⟩)
end Go.AK
namespace Go.AK
open Go Go.RowKit Go.Proofs
set_option linter.unusedVariables false
set_option maxRecDepth 100000
theorem okT_ints : ∀ fuel, okT T fuel 22 = true
  | 0 => rfl
  | 1 => rfl
  | n + 2 => rfl
theorem WT_i64 : ∀ {n : Nat} {ys : List AV}, WT T n 3 ys → ∃ m, ys = [.i .i64 m] ∧ (Lit.int .i64 m).wf = true
  | 0, _, h => h.elim
  | n + 1, ys, h => h
theorem WT_ints : ∀ {fuel : Nat} {xs : List AV}, WT T fuel 22 xs → ∃ L : List Int, xs = [.rs (ints L) 0 1 L.length] ∧ L.length ≤ maxLen ∧ ∀ x ∈ L, (Lit.int .i64 x).wf = true
  | 0, _, h => h.elim
  | n + 1, xs, h => by
    obtain ⟨m, cs, hx, hm, hc⟩ := (show ∃ m cs, xs = [AV.rs cs 0 1 m] ∧ m ≤ maxLen ∧ WTs (WT T n) (List.replicate m 3) cs from h)
    obtain ⟨L, hL, hl, hw⟩ := WTs_ints (fun ys => WT_i64) m cs hc
    subst hL
    exact ⟨L, by rw [hx, hl], by omega, hw⟩
theorem okT_frame : ∀ fuel, okT T fuel 26 = true
  | 0 => rfl
  | 1 => rfl
  | 2 => rfl
  | n + 3 => rfl
theorem okT_frames : ∀ fuel, okT T fuel 36 = true
  | 0 => rfl
  | 1 => rfl
  | 2 => rfl
  | 3 => rfl
  | n + 4 => rfl
theorem i64_in {n : Int} (h : (Lit.int .i64 n).wf = true) : -9223372036854775808 ≤ n ∧ n ≤ 9223372036854775807 := by
  have := Bool.and_eq_true_iff.1 (show (decide (IntKind.min .i64 ≤ n) && decide (n ≤ IntKind.max .i64)) = true from h)
  exact ⟨of_decide_eq_true this.1, of_decide_eq_true this.2⟩
theorem u8_in {n : Int} (h : (Lit.int .u8 n).wf = true) : 0 ≤ n ∧ n < 256 := by
  have := Bool.and_eq_true_iff.1 (show (decide (IntKind.min .u8 ≤ n) && decide (n ≤ IntKind.max .u8)) = true from h)
  have h1 : (0 : Int) ≤ n := of_decide_eq_true this.1
  have h2 : n ≤ (255 : Int) := of_decide_eq_true this.2
  omega
theorem WT_frame : ∀ {fuel : Nat} {xs : List AV}, WT T fuel 26 xs → ∃ F : Fr, xs = F.cells ∧ F.ok
  | 0, _, h => h.elim
  | 1, xs, h => by
    obtain ⟨ys, zs, _, h1, _⟩ := (show WTs (WT T 0) [3, 4, 4, 3, 24] xs from h)
    exact h1.elim
  | 2, xs, h => by
    obtain ⟨y0, z0, rfl, h0, h⟩ := (show WTs (WT T 1) [3, 4, 4, 3, 24] xs from h)
    obtain ⟨y1, z1, rfl, h1, h⟩ := h
    obtain ⟨y2, z2, rfl, h2, h⟩ := h
    obtain ⟨y3, z3, rfl, h3, h⟩ := h
    obtain ⟨y4, z4, rfl, h4, h⟩ := h
    obtain ⟨a, b, _, h5, _⟩ := (show WTs (WT T 0) (List.replicate 8 5) y4 from h4)
    exact h5.elim
  | n + 3, xs, h => by
    obtain ⟨y0, z0, rfl, h0, h⟩ := (show WTs (WT T (n + 2)) [3, 4, 4, 3, 24] xs from h)
    obtain ⟨y1, z1, rfl, h1, h⟩ := h
    obtain ⟨y2, z2, rfl, h2, h⟩ := h
    obtain ⟨y3, z3, rfl, h3, h⟩ := h
    obtain ⟨y4, z4, rfl, h4, h⟩ := h
    obtain rfl := (show z4 = [] from h)
    obtain ⟨id, rfl, w0⟩ := (show ∃ m, y0 = [.i .i64 m] ∧ (Lit.int .i64 m).wf = true from h0)
    obtain ⟨ext, rfl⟩ := (show ∃ b, y1 = [.b b] from h1)
    obtain ⟨rtr, rfl⟩ := (show ∃ b, y2 = [.b b] from h2)
    obtain ⟨len, rfl, w3⟩ := (show ∃ m, y3 = [.i .i64 m] ∧ (Lit.int .i64 m).wf = true from h3)
    obtain ⟨L, hL, hl, hw⟩ := WTs_ints (T := T) (n := n + 1) (e := 5) (k := .u8) (fun ys hy => (show ∃ m, ys = [.i .u8 m] ∧ (Lit.int .u8 m).wf = true from hy)) 8 y4 (show WTs (WT T (n + 1)) (List.replicate 8 5) y4 from h4)
    subst hL
    obtain ⟨b0, b1, b2, b3, b4, b5, b6, b7, rfl⟩ : ∃ b0 b1 b2 b3 b4 b5 b6 b7, L = [b0, b1, b2, b3, b4, b5, b6, b7] := by
      match L, hl with
      | [a, b, c, d, e, f, g, h], _ => exact ⟨a, b, c, d, e, f, g, h, rfl⟩
    exact ⟨⟨id, ext, rtr, len, b0, b1, b2, b3, b4, b5, b6, b7⟩, rfl, i64_in w0, i64_in w3, fun x hx => u8_in (hw x hx)⟩
theorem WTs_frames {n : Nat} : ∀ (m : Nat) (cs : List AV), WTs (WT T n) (List.replicate m 26) cs → ∃ L : List Fr, cs = frs L ∧ L.length = m ∧ ∀ F ∈ L, F.ok
  | 0, cs, hc => ⟨[], (show cs = [] from hc), rfl, fun x hx => by cases hx⟩
  | m + 1, cs, hc => by
    rw [List.replicate_succ] at hc
    obtain ⟨ys, zs, rfl, h1, h2⟩ := hc
    obtain ⟨F, rfl, hF⟩ := WT_frame h1
    obtain ⟨L, rfl, hl, hL⟩ := WTs_frames m zs h2
    refine ⟨F :: L, rfl, by simp [hl], fun y hy => ?_⟩
    rcases List.mem_cons.1 hy with rfl | hy
    · exact hF
    · exact hL y hy
theorem WT_frames : ∀ {fuel : Nat} {xs : List AV}, WT T fuel 36 xs → ∃ l : List Fr, xs = [.rs (frs l) 0 12 l.length] ∧ l.length ≤ maxLen ∧ ∀ F ∈ l, F.ok
  | 0, _, h => h.elim
  | n + 1, xs, h => by
    obtain ⟨m, cs, hx, hm, hc⟩ := (show ∃ m cs, xs = [AV.rs cs 0 12 m] ∧ m ≤ maxLen ∧ WTs (WT T n) (List.replicate m 26) cs from h)
    obtain ⟨L, hL, hl, hw⟩ := WTs_frames m cs hc
    subst hL
    exact ⟨L, by rw [hx, hl], by omega, hw⟩
end Go.AK
