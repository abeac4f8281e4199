/- Texts SQPlaysP, SQPlays: an evaluator of the model's code, proved sound, and what the program's functions do, for all inputs. -/
import Derived.Test.YtmhagleekhihoaaMS4
namespace Go.AK
open Go Go.RowKit Go.Proofs
set_option linter.unusedVariables false
set_option maxRecDepth 100000
theorem cutK {P : Program} {n0 nt : Nat} {ops : Array Oper} {Q : AX → Regs → Heap → Prop} {G : Prop} (Inv : Regs → Heap → Prop) (h1 : (∀ rr HH, Inv rr HH → ADraw P n0 nt ops rr HH Q) → G) (h2 : ∀ rr HH, Inv rr HH → ADraw P n0 nt ops rr HH Q) : G := h1 h2
theorem list_two {α : Type} (l : List α) : l = [] ∨ ∃ x t, l = x :: t := by
  cases l with
  | nil => exact .inl rfl
  | cons x t => exact .inr ⟨x, t, rfl⟩
/-- The document's row behind an act. -/
def rowL (R : List Fr) (most : Int) (a : Bool × Fr) : List Fr := if a.1 = true then R.erase a.2 else (if putE R a.2 most = 0 then R ++ [a.2] else R)
theorem putE_len {R S : List Fr} {F : Fr} {most : Int} (h : R.length = S.length) : putE R F most = putE S F most := by unfold putE; rw [h]
theorem act_row (R : List Fr) (hm : ∀ K ∈ R, K.may) (most : Int) (a : Bool × Fr) : actL (srt R) most a = srt (rowL R most a) ∧ actE (srt R) most a = actE R most a := by
  have hpe : putE (srt R) a.2 most = putE R a.2 most := putE_len (srt_length R)
  unfold actL actE rowL
  rw [hpe]
  split
  · constructor
    · split
      · rw [drop_erase, srt_erase R hm]
      · rename_i h
        rw [List.erase_of_not_mem (fun h2 => h (srt_mem.2 h2))]
    · by_cases h : a.2 ∈ R
      · rw [if_pos (srt_mem.2 h), if_pos h]
      · rw [if_neg (fun h2 => h (srt_mem.1 h2)), if_neg h]
  · refine ⟨?_, rfl⟩
    split
    · rw [srt_snoc]
    · rfl
theorem rowL_ok {R : List Fr} {most : Int} {a : Bool × Fr} (h : ∀ K ∈ R, K.may ∧ K.ok) (ha : a.2.ok) : ∀ K ∈ rowL R most a, K.may ∧ K.ok := fun K hK => by
  unfold rowL at hK
  split at hK
  · exact h K (List.mem_of_mem_erase hK)
  · split at hK
    · rename_i he
      rcases List.mem_append.1 hK with h2 | h2
      · exact h K h2
      · rw [List.mem_singleton.1 h2]
        refine ⟨?_, ha⟩
        unfold putE at he
        split at he
        · assumption
        · omega
    · exact h K hK
theorem rowL_len {R : List Fr} {most : Int} {a : Bool × Fr} (h : (R.length : Int) ≤ most) : ((rowL R most a).length : Int) ≤ most := by
  unfold rowL
  split
  · have : (R.erase a.2).length ≤ R.length := List.length_erase_le
    omega
  · split
    · rename_i he
      unfold putE at he
      split at he
      · split at he
        · omega
        · rw [List.length_append, List.length_singleton]; omega
      · omega
    · exact h
theorem aget_actF {L : List (Bool × Fr)} {k o : Nat} (ho : o = k * 13 + 1) (hk : k < L.length) {K : AV → AV → AV → AV → AV → AV → AV → AV → AV → AV → AV → AV → Prop} (h : K (.i .i64 L[k].2.id) (.b L[k].2.ext) (.b L[k].2.rtr) (.i .i64 L[k].2.len) (.i .u8 L[k].2.b0) (.i .u8 L[k].2.b1) (.i .u8 L[k].2.b2) (.i .u8 L[k].2.b3) (.i .u8 L[k].2.b4) (.i .u8 L[k].2.b5) (.i .u8 L[k].2.b6) (.i .u8 L[k].2.b7)) :
    aget (acs L) o fun v0 => aget (acs L) (o + 1) fun v1 => aget (acs L) ((o + 1) + 1) fun v2 => aget (acs L) (((o + 1) + 1) + 1) fun v3 => aget (acs L) ((((o + 1) + 1) + 1) + 1) fun v4 => aget (acs L) (((((o + 1) + 1) + 1) + 1) + 1) fun v5 => aget (acs L) ((((((o + 1) + 1) + 1) + 1) + 1) + 1) fun v6 => aget (acs L) (((((((o + 1) + 1) + 1) + 1) + 1) + 1) + 1) fun v7 => aget (acs L) ((((((((o + 1) + 1) + 1) + 1) + 1) + 1) + 1) + 1) fun v8 => aget (acs L) (((((((((o + 1) + 1) + 1) + 1) + 1) + 1) + 1) + 1) + 1) fun v9 => aget (acs L) ((((((((((o + 1) + 1) + 1) + 1) + 1) + 1) + 1) + 1) + 1) + 1) fun v10 => aget (acs L) (((((((((((o + 1) + 1) + 1) + 1) + 1) + 1) + 1) + 1) + 1) + 1) + 1) fun v11 => K v0 v1 v2 v3 v4 v5 v6 v7 v8 v9 v10 v11 := by
  subst ho
  have g : ∀ j (v : AV), j < 12 → L[k].2.cells[j]? = some v → (acs L)[k * 13 + 1 + j]? = some v := fun j v hj h => by rw [Nat.add_assoc, acs_get hk (by omega), Nat.add_comm 1 j]; exact h
  unfold aget
  rw [show (acs L)[k * 13 + 1]? = some (.i .i64 L[k].2.id) from g 0 _ (by omega) rfl]
  dsimp only
  rw [show (acs L)[(k * 13 + 1 + 1)]? = some (.b L[k].2.ext) from g 1 _ (by omega) rfl]
  dsimp only
  rw [show (acs L)[((k * 13 + 1 + 1) + 1)]? = some (.b L[k].2.rtr) from g 2 _ (by omega) rfl]
  dsimp only
  rw [show (acs L)[(((k * 13 + 1 + 1) + 1) + 1)]? = some (.i .i64 L[k].2.len) from g 3 _ (by omega) rfl]
  dsimp only
  rw [show (acs L)[((((k * 13 + 1 + 1) + 1) + 1) + 1)]? = some (.i .u8 L[k].2.b0) from g 4 _ (by omega) rfl]
  dsimp only
  rw [show (acs L)[(((((k * 13 + 1 + 1) + 1) + 1) + 1) + 1)]? = some (.i .u8 L[k].2.b1) from g 5 _ (by omega) rfl]
  dsimp only
  rw [show (acs L)[((((((k * 13 + 1 + 1) + 1) + 1) + 1) + 1) + 1)]? = some (.i .u8 L[k].2.b2) from g 6 _ (by omega) rfl]
  dsimp only
  rw [show (acs L)[(((((((k * 13 + 1 + 1) + 1) + 1) + 1) + 1) + 1) + 1)]? = some (.i .u8 L[k].2.b3) from g 7 _ (by omega) rfl]
  dsimp only
  rw [show (acs L)[((((((((k * 13 + 1 + 1) + 1) + 1) + 1) + 1) + 1) + 1) + 1)]? = some (.i .u8 L[k].2.b4) from g 8 _ (by omega) rfl]
  dsimp only
  rw [show (acs L)[(((((((((k * 13 + 1 + 1) + 1) + 1) + 1) + 1) + 1) + 1) + 1) + 1)]? = some (.i .u8 L[k].2.b5) from g 9 _ (by omega) rfl]
  dsimp only
  rw [show (acs L)[((((((((((k * 13 + 1 + 1) + 1) + 1) + 1) + 1) + 1) + 1) + 1) + 1) + 1)]? = some (.i .u8 L[k].2.b6) from g 10 _ (by omega) rfl]
  dsimp only
  rw [show (acs L)[(((((((((((k * 13 + 1 + 1) + 1) + 1) + 1) + 1) + 1) + 1) + 1) + 1) + 1) + 1)]? = some (.i .u8 L[k].2.b7) from g 11 _ (by omega) rfl]
  exact h
theorem does_nil2 (a : Bool × Fr) (ha : a.2.ok) (most : Int) (hmost : 1 ≤ most) :
    ACall Try.prog 16 [.p (some (0, 0)), actAV a] [.c [.sl none 0 0 0, .i .i64 most]] fun r H => r = .ret (.i .i64 (actE [] most a)) ∧ ((actL [] most a = [] ∧ QNil most H) ∨ (actL [] most a ≠ [] ∧ QIn (actL [] most a) most H)) := by
  obtain ⟨d, F⟩ := a
  refine ACall.gh ?_
  refine ACall.enter tok false Try.func16 rfl rfl rfl (AW_sound (ip := false) tok _ _ _ _ ?_)
  cases d
  · conv => whnf
    refine ACall.frame [0] [] rfl (args' := [.p (some (0, 0)), F.av]) (Hc := [.c [.sl none 0 0 0, .i .i64 most]]) rfl rfl (qput_nil F ha most hmost) ?_
    rintro r H ⟨rfl, ⟨h0, d, Z, k1, k2, k3, rfl⟩ | ⟨h0, rfl⟩⟩
    · have hE : actE [] most (false, F) = F.chk := by
        unfold actE putE; rw [if_neg (by simp), if_pos h0, if_neg (by simp; omega), Fr.good h0]
      have hL : actL [] most (false, F) = [F] := by
        have hpe : putE [] F most = 0 := by unfold putE; rw [if_pos h0, if_neg (by simp; omega)]
        unfold actL; rw [if_neg (by simp), if_pos hpe]; rfl
      refine ⟨.inl rfl, ?_⟩
      conv => whnf
      have hz : Pl (frs [F] ++ Z) := (Pl.frs _).app k2
      refine GhR.sel [0, 2] rfl (GhR.of ⟨by rw [hE]; rfl, .inr ⟨by rw [hL]; simp, d, Z, by rw [hL]; exact k1, k2, by rw [hL]; exact k3, ?_⟩⟩)
      rw [hL]
      show [_, Blk.c (subs _ (subs _ (frs [F] ++ Z)))] = _
      rw [hz, hz]
      rfl
    · have hE : actE [] most (false, F) = F.chk := by
        unfold actE putE; rw [if_neg (by simp), if_neg h0, Fr.bad h0]
      have hL : actL [] most (false, F) = [] := by
        unfold actL putE; rw [if_neg (by simp), if_neg h0, if_neg (by decide)]
      refine ⟨.inl rfl, ?_⟩
      conv => whnf
      exact GhR.sel [0] rfl (GhR.of ⟨by rw [hE]; rfl, .inl ⟨hL, rfl⟩⟩)
  · conv => whnf
    refine ACall.frame [0] [] rfl (args' := [.p (some (0, 0)), F.av]) (Hc := [.c [.sl none 0 0 0, .i .i64 most]]) rfl rfl (qdrop_nil F most) ?_
    rintro r H ⟨rfl, rfl⟩
    refine ⟨.inl rfl, ?_⟩
    conv => whnf
    exact GhR.sel [0] rfl (GhR.of ⟨rfl, .inl ⟨rfl, rfl⟩⟩)
end Go.AK
namespace Go.AK
open Go Go.RowKit Go.Proofs
set_option linter.unusedVariables false
set_option maxRecDepth 100000
set_option maxHeartbeats 2000000 in
theorem lawPlays (most : Int) (hmost : -9223372036854775808 ≤ most ∧ most ≤ 9223372036854775807) (A : List (Bool × Fr)) (hA : ∀ a ∈ A, a.2.ok) : ACall Try.prog 4 [.i .i64 most, .rs (acs A) 0 13 A.length] [] fun r H => r = .ret (.b true) ∧ H = [] := by
  refine ACall.gh ?_
  refine ACall.enter tok false Try.func4 rfl rfl rfl (AW_sound (ip := false) tok _ _ _ _ ?_)
  conv => whnf
  by_cases g1 : (A.length : Int) > 100
  · repeat (refine acond_t (decide_eq_true g1) ?_; conv => whnf)
    refine ACall.frameH [] [] rfl (args' := []) (Hc := []) rfl rfl awake9_spec ?_
    rintro r H ⟨rfl, rfl⟩
    refine ⟨.inl rfl, _, rfl, ?_⟩
    conv => whnf
    exact GhR.sel [] rfl (GhR.of ⟨rfl, rfl⟩)
  · repeat (refine acond_f (decide_eq_false g1) ?_; conv => whnf)
    refine ACall.frameH [] [] rfl (args' := [.i .i64 most]) (Hc := []) rfl rfl (qnew_spec most) ?_
    rintro r H (⟨hg, rfl, rfl⟩ | ⟨hm1, hm2, rfl, rfl⟩)
    · refine ⟨.inl rfl, [], rfl, ?_⟩
      conv => whnf
      by_cases g2 : most < 1
      · repeat (refine acond_t (decide_eq_true g2) ?_; conv => whnf)
        refine ACall.frameH [] [] rfl (args' := []) (Hc := []) rfl rfl awake9_spec ?_
        rintro r H ⟨rfl, rfl⟩
        refine ⟨.inl rfl, _, rfl, ?_⟩
        conv => whnf
        exact GhR.sel [] rfl (GhR.of ⟨rfl, rfl⟩)
      · have g3 : most > 16 := by omega
        repeat (first | (refine acond_f (decide_eq_false g2) ?_; conv => whnf) | (refine acond_t (decide_eq_true g3) ?_; conv => whnf))
        refine ACall.frameH [] [] rfl (args' := []) (Hc := []) rfl rfl awake9_spec ?_
        rintro r H ⟨rfl, rfl⟩
        refine ⟨.inl rfl, _, rfl, ?_⟩
        conv => whnf
        exact GhR.sel [] rfl (GhR.of ⟨rfl, rfl⟩)
    have g2 : ¬ most < 1 := by omega
    have g3 : ¬ most > 16 := by omega
    refine ⟨.inl rfl, [.c [.sl none 0 0 0, .i .i64 most]], rfl, ?_⟩
    conv => whnf
    repeat (first | (refine acond_f (decide_eq_false g2) ?_; conv => whnf) | (refine acond_f (decide_eq_false g3) ?_; conv => whnf))
    refine ALoop.ind (ip := false) tok (fun m r H => ∃ (i : Nat) (R : List Fr), i ≤ A.length ∧ m = A.length - i ∧ (R.length : Int) ≤ most ∧ (∀ F ∈ R, F.may ∧ F.ok) ∧
      ((R = [] ∧ H = [.c [.sl none 0 0 0, .i .i64 most], .c [.sl none 0 0 0, .i .i64 most]]) ∨ ∃ c Y e X, (srt R).length ≤ c ∧ Pl Y ∧ Y.length = (c - (srt R).length) * 12 ∧ R.length ≤ e ∧ Pl X ∧ X.length = (e - R.length) * 12 ∧ H = [.c [.sl (some (2, 0)) 12 (srt R).length c, .i .i64 most], .c [.sl (some (3, 0)) 12 R.length e, .i .i64 most], .c (frs (srt R) ++ Y), .c (frs R ++ X)]) ∧
      r = [(8, .i .i64 i), (7, .p (some (1, 0))), (5, .p (some (0, 0))), (4, .b false), (1, .rs (acs A) 0 13 A.length), (0, .i .i64 most)]) A.length ?_ ?_
    · exact Gh.regs [8, 7, 5, 4, 1, 0] (Gh.of ⟨0, [], by omega, by omega, by simp; omega, (fun F h => by cases h), .inl ⟨rfl, rfl⟩, rfl⟩)
    · rintro m r H ⟨i, R, hi, rfl, hl16, hok, hst, rfl⟩
      by_cases h1 : (i : Int) < A.length
      · have hil : i < A.length := by omega
        have ha := hA _ (List.getElem_mem hil)
        have hm : ∀ K ∈ R, K.may := fun K h => (hok K h).1
        have hok2 := rowL_ok (most := most) (a := A[i]) hok ha
        have hln2 := rowL_len (a := A[i]) hl16
        have hacts := act_row R hm most A[i]
        have hm2' : ∀ K ∈ rowL R most A[i], K.may := fun K h => (hok2 K h).1
        have hwant : (actE R most A[i] != actE R most A[i]) = false := by simp
        have hne : (((srt (rowL R most A[i])).length : Int) != ((rowL R most A[i]).length : Int)) = false := by rw [srt_length]; simp
        have hsl : (srt (rowL R most A[i])).length = (rowL R most A[i]).length := srt_length _
        have hslR : (srt R).length = R.length := srt_length _
        have hs0 : srt ([] : List Fr) = [] := rfl
        conv => whnf
        refine acond_t (decide_eq_true h1) ?_
        conv => whnf
        refine ⟨⟨by omega, h1⟩, ?_⟩
        conv => whnf
        refine aget_at (i := i * 13) (by omega) (acs_get hil (j := 0) (by omega)) ?_
        conv => whnf
        apply cutK (fun rr HH => rr = [(9, .i .i64 (actE R most A[i])), (8, .i .i64 i), (7, .p (some (1, 0))), (5, .p (some (0, 0))), (4, .b false), (1, .rs (acs A) 0 13 A.length), (0, .i .i64 most)] ∧
          ((R = [] ∧ rowL R most A[i] = [] ∧ HH = [.c [.sl none 0 0 0, .i .i64 most], .c [.sl none 0 0 0, .i .i64 most]]) ∨
           (∃ e X, R = [] ∧ rowL R most A[i] ≠ [] ∧ (rowL R most A[i]).length ≤ e ∧ Pl X ∧ X.length = (e - (rowL R most A[i]).length) * 12 ∧ HH = [.c [.sl none 0 0 0, .i .i64 most], .c [.sl (some (2, 0)) 12 (rowL R most A[i]).length e, .i .i64 most], .c (frs (rowL R most A[i]) ++ X)]) ∨
           (∃ c Y e X, (srt R).length ≤ c ∧ Pl Y ∧ Y.length = (c - (srt R).length) * 12 ∧ (rowL R most A[i]).length ≤ e ∧ Pl X ∧ X.length = (e - (rowL R most A[i]).length) * 12 ∧ HH = [.c [.sl (some (2, 0)) 12 (srt R).length c, .i .i64 most], .c [.sl (some (3, 0)) 12 (rowL R most A[i]).length e, .i .i64 most], .c (frs (srt R) ++ Y), .c (frs (rowL R most A[i]) ++ X)])))
        · intro hreg
          by_cases hd : A[i].1 = true
          · refine acond_t hd ?_
            conv => whnf
            refine ⟨⟨by omega, h1⟩, ?_⟩
            conv => whnf
            refine aget_actF (k := i) (by omega) hil ?_
            conv => whnf
            have hE : actE R most A[i] = if A[i].2 ∈ R then 0 else 16 := by unfold actE; rw [if_pos hd]
            have hR : rowL R most A[i] = R.erase A[i].2 := by unfold rowL; rw [if_pos hd]
            rcases hst with ⟨rfl, rfl⟩ | ⟨c, Y, e, X, k1, k2, k3, k4, k5, k6, rfl⟩
            ·
              refine ACall.frameH [1] [] rfl (args' := [.p (some (0, 0)), A[i].2.av]) (Hc := [.c [.sl none 0 0 0, .i .i64 most]]) rfl rfl (rfdrop_nil A[i].2 most) ?_
              rintro r H ⟨rfl, rfl⟩
              refine ⟨.inl rfl, [.c [.sl none 0 0 0, .i .i64 most], .c [.sl none 0 0 0, .i .i64 most]], rfl, ?_⟩
              conv => whnf
              refine ADraw.gh (Gh.regs [9, 8, 7, 5, 4, 1, 0] (Gh.sel [0, 1] rfl (Gh.of ?_)))
              refine hreg _ _ ⟨?_, .inl ⟨rfl, by rw [hR]; rfl, rfl⟩⟩
              refine keep_eq (show keepR _ _ = [_, _, _, _, _, _, _] from rfl) ?_
              simp only [subG, sub, subs_acs]
              rw [hE, if_neg (by simp)]
              rfl
            ·
              have hzX : ∀ φ, subs φ (frs R ++ X) = frs R ++ X := (Pl.frs _).app k5
              have hzY : ∀ φ, subs φ (frs (srt R) ++ Y) = frs (srt R) ++ Y := (Pl.frs _).app k2
              refine ACall.frameH [1, 3] [] rfl (args' := [.p (some (0, 0)), A[i].2.av]) (Hc := [.c [.sl (some (1, 0)) 12 R.length e, .i .i64 most], .c (frs R ++ X)]) rfl (by show [_, Blk.c (subs _ _)] = _; simp only [hzX]; rfl) (rfdrop_spec R A[i].2 most e X k4 k5 k6 (by omega)) ?_
              rintro r H (⟨hmem, rfl, e2, X2, m4, m5, m6, rfl⟩ | ⟨hmem, rfl, e2, X2, m4, m5, m6, rfl⟩)
              · have hR' := hR
                have hz2 : ∀ φ, subs φ (frs (R.erase A[i].2) ++ X2) = frs (R.erase A[i].2) ++ X2 := (Pl.frs _).app m5
                refine ⟨.inl rfl, [.c [.sl (some (2, 0)) 12 (srt R).length c, .i .i64 most], .c [.sl (some (4, 0)) 12 (R.erase A[i].2).length e2, .i .i64 most], .c (frs (srt R) ++ Y), .dead, .c (frs (R.erase A[i].2) ++ X2)], (by show [_, _, _, _, Blk.c (subs _ _)] = _; simp only [hz2]; rfl), ?_⟩
                conv => whnf
                refine ADraw.gh (Gh.regs [9, 8, 7, 5, 4, 1, 0] (Gh.sel [0, 1, 2, 4] rfl (Gh.of ?_)))
                refine hreg _ _ ⟨?_, .inr (.inr ⟨c, Y, e2, X2, k1, k2, k3, by rw [hR']; exact m4, m5, by rw [hR']; exact m6, by rw [hR']; exact (by show [_, _, Blk.c (subs _ _), Blk.c (subs _ _)] = _; simp only [hzY, hz2]; rfl)⟩)⟩
                refine keep_eq (show keepR _ _ = [_, _, _, _, _, _, _] from rfl) ?_
                simp only [subG, sub, subs_acs]
                rw [hE, if_pos hmem]
                rfl
              · have hR' : rowL R most A[i] = R := by rw [hR, List.erase_of_not_mem hmem]
                have hz2 : ∀ φ, subs φ (frs R ++ X2) = frs R ++ X2 := (Pl.frs _).app m5
                refine ⟨.inl rfl, [.c [.sl (some (2, 0)) 12 (srt R).length c, .i .i64 most], .c [.sl (some (3, 0)) 12 R.length e2, .i .i64 most], .c (frs (srt R) ++ Y), .c (frs R ++ X2)], (by show [_, _, _, Blk.c (subs _ _)] = _; simp only [hz2]; rfl), ?_⟩
                conv => whnf
                refine ADraw.gh (Gh.regs [9, 8, 7, 5, 4, 1, 0] (Gh.sel [0, 1, 2, 3] rfl (Gh.of ?_)))
                refine hreg _ _ ⟨?_, .inr (.inr ⟨c, Y, e2, X2, k1, k2, k3, by rw [hR']; exact m4, m5, by rw [hR']; exact m6, by rw [hR']; exact (by show [_, _, Blk.c (subs _ _), Blk.c (subs _ _)] = _; simp only [hzY, hz2]; rfl)⟩)⟩
                refine keep_eq (show keepR _ _ = [_, _, _, _, _, _, _] from rfl) ?_
                simp only [subG, sub, subs_acs]
                rw [hE, if_neg hmem]
                rfl
          · refine acond_f (Bool.eq_false_iff.2 hd) ?_
            conv => whnf
            refine ⟨⟨by omega, h1⟩, ?_⟩
            conv => whnf
            refine aget_actF (k := i) (by omega) hil ?_
            conv => whnf
            have hE : actE R most A[i] = putE R A[i].2 most := by unfold actE; rw [if_neg hd]
            have hR : rowL R most A[i] = if putE R A[i].2 most = 0 then R ++ [A[i].2] else R := by unfold rowL; rw [if_neg hd]
            rcases hst with ⟨rfl, rfl⟩ | ⟨c, Y, e, X, k1, k2, k3, k4, k5, k6, rfl⟩
            ·
              refine ACall.frameH [1] [] rfl (args' := [.p (some (0, 0)), A[i].2.av]) (Hc := [.c [.sl none 0 0 0, .i .i64 most]]) rfl rfl (rfput_nil A[i].2 ha most (by omega)) ?_
              rintro r H ⟨rfl, ⟨hmay, e2, X2, m4, m5, m6, rfl⟩ | ⟨hmay, rfl⟩⟩
              · have hz2 : ∀ φ, subs φ (frs [A[i].2] ++ X2) = frs [A[i].2] ++ X2 := (Pl.frs _).app m5
                have hpe : putE [] A[i].2 most = 0 := by unfold putE; rw [if_pos hmay, if_neg (by simp; omega)]
                have hR' : rowL [] most A[i] = [A[i].2] := by rw [hR, if_pos hpe]; rfl
                refine ⟨.inl rfl, [.c [.sl none 0 0 0, .i .i64 most], .c [.sl (some (2, 0)) 12 [A[i].2].length e2, .i .i64 most], .c (frs [A[i].2] ++ X2)], (by show [_, _, Blk.c (subs _ _)] = _; simp only [hz2]; rfl), ?_⟩
                conv => whnf
                refine ADraw.gh (Gh.regs [9, 8, 7, 5, 4, 1, 0] (Gh.sel [0, 1, 2] rfl (Gh.of ?_)))
                refine hreg _ _ ⟨?_, .inr (.inl ⟨e2, X2, rfl, by rw [hR']; simp, by rw [hR']; exact m4, m5, by rw [hR']; exact m6, by rw [hR']; exact (by show [_, _, Blk.c (subs _ _)] = _; simp only [hz2]; rfl)⟩)⟩
                refine keep_eq (show keepR _ _ = [_, _, _, _, _, _, _] from rfl) ?_
                simp only [subG, sub, subs_acs]
                rw [hE, hpe, Fr.good hmay]
                rfl
              · have hpe : putE [] A[i].2 most = A[i].2.chk := by unfold putE; rw [if_neg hmay, Fr.bad hmay]
                have hR' : rowL [] most A[i] = [] := by rw [hR, hpe, if_neg (by rw [Fr.bad hmay]; decide)]
                refine ⟨.inl rfl, [.c [.sl none 0 0 0, .i .i64 most], .c [.sl none 0 0 0, .i .i64 most]], rfl, ?_⟩
                conv => whnf
                refine ADraw.gh (Gh.regs [9, 8, 7, 5, 4, 1, 0] (Gh.sel [0, 1] rfl (Gh.of ?_)))
                refine hreg _ _ ⟨?_, .inl ⟨rfl, hR', rfl⟩⟩
                refine keep_eq (show keepR _ _ = [_, _, _, _, _, _, _] from rfl) ?_
                simp only [subG, sub, subs_acs]
                rw [hE, hpe]
                rfl
            ·
              have hzX : ∀ φ, subs φ (frs R ++ X) = frs R ++ X := (Pl.frs _).app k5
              have hzY : ∀ φ, subs φ (frs (srt R) ++ Y) = frs (srt R) ++ Y := (Pl.frs _).app k2
              refine ACall.frameH [1, 3] [] rfl (args' := [.p (some (0, 0)), A[i].2.av]) (Hc := [.c [.sl (some (1, 0)) 12 R.length e, .i .i64 most], .c (frs R ++ X)]) rfl (by show [_, Blk.c (subs _ _)] = _; simp only [hzX]; rfl) (rfput_spec R A[i].2 ha most e X k4 k5 k6 (by omega)) ?_
              rintro r H ⟨rfl, ⟨hpe, e2, X2, m4, m5, m6, rfl⟩ | ⟨hpe, e2, X2, m4, m5, m6, rfl⟩⟩
              · have hR' : rowL R most A[i] = R ++ [A[i].2] := by rw [hR, if_pos hpe]
                have hz2 : ∀ φ, subs φ (frs (R ++ [A[i].2]) ++ X2) = frs (R ++ [A[i].2]) ++ X2 := (Pl.frs _).app m5
                refine ⟨.inl rfl, [.c [.sl (some (2, 0)) 12 (srt R).length c, .i .i64 most], .c [.sl (some (4, 0)) 12 (R ++ [A[i].2]).length e2, .i .i64 most], .c (frs (srt R) ++ Y), .dead, .c (frs (R ++ [A[i].2]) ++ X2)], (by show [_, _, _, _, Blk.c (subs _ _)] = _; simp only [hz2]; rfl), ?_⟩
                conv => whnf
                refine ADraw.gh (Gh.regs [9, 8, 7, 5, 4, 1, 0] (Gh.sel [0, 1, 2, 4] rfl (Gh.of ?_)))
                refine hreg _ _ ⟨?_, .inr (.inr ⟨c, Y, e2, X2, k1, k2, k3, by rw [hR']; exact m4, m5, by rw [hR']; exact m6, by rw [hR']; exact (by show [_, _, Blk.c (subs _ _), Blk.c (subs _ _)] = _; simp only [hzY, hz2]; rfl)⟩)⟩
                refine keep_eq (show keepR _ _ = [_, _, _, _, _, _, _] from rfl) ?_
                simp only [subG, sub, subs_acs]
                rw [hE]
                rfl
              · have hR' : rowL R most A[i] = R := by rw [hR, if_neg hpe]
                have hz2 : ∀ φ, subs φ (frs R ++ X2) = frs R ++ X2 := (Pl.frs _).app m5
                refine ⟨.inl rfl, [.c [.sl (some (2, 0)) 12 (srt R).length c, .i .i64 most], .c [.sl (some (3, 0)) 12 R.length e2, .i .i64 most], .c (frs (srt R) ++ Y), .c (frs R ++ X2)], (by show [_, _, _, Blk.c (subs _ _)] = _; simp only [hz2]; rfl), ?_⟩
                conv => whnf
                refine ADraw.gh (Gh.regs [9, 8, 7, 5, 4, 1, 0] (Gh.sel [0, 1, 2, 3] rfl (Gh.of ?_)))
                refine hreg _ _ ⟨?_, .inr (.inr ⟨c, Y, e2, X2, k1, k2, k3, by rw [hR']; exact m4, m5, by rw [hR']; exact m6, by rw [hR']; exact (by show [_, _, Blk.c (subs _ _), Blk.c (subs _ _)] = _; simp only [hzY, hz2]; rfl)⟩)⟩
                refine keep_eq (show keepR _ _ = [_, _, _, _, _, _, _] from rfl) ?_
                simp only [subG, sub, subs_acs]
                rw [hE]
                rfl
        · rintro rr HH ⟨rfl, hst2⟩
          clear hst
          refine ADraw.post (Q' := fun x r H => x = .normal ∧ keepR [96, 8, 7, 5, 4, 1, 0] r = [(96, .b false), (8, .i .i64 i), (7, .p (some (1, 0))), (5, .p (some (0, 0))), (4, .b false), (1, .rs (acs A) 0 13 A.length), (0, .i .i64 most)] ∧ ((rowL R most A[i] = [] ∧ H = [.c [.sl none 0 0 0, .i .i64 most], .c [.sl none 0 0 0, .i .i64 most], .c (frs [])]) ∨ (∃ c Y e X, (srt (rowL R most A[i])).length ≤ c ∧ Pl Y ∧ Y.length = (c - (srt (rowL R most A[i])).length) * 12 ∧ (rowL R most A[i]).length ≤ e ∧ Pl X ∧ X.length = (e - (rowL R most A[i]).length) * 12 ∧ (H = [.c [.sl (some (3, 0)) 12 (srt (rowL R most A[i])).length c, .i .i64 most], .c [.sl (some (2, 0)) 12 (rowL R most A[i]).length e, .i .i64 most], .c (frs (rowL R most A[i]) ++ X), .c (frs (srt (rowL R most A[i])) ++ Y), .c (frs (srt (rowL R most A[i]))), .c (frs (srt (rowL R most A[i])))] ∨ H = [.c [.sl (some (2, 0)) 12 (srt (rowL R most A[i])).length c, .i .i64 most], .c [.sl (some (3, 0)) 12 (rowL R most A[i]).length e, .i .i64 most], .c (frs (srt (rowL R most A[i])) ++ Y), .c (frs (rowL R most A[i]) ++ X), .c (frs (srt (rowL R most A[i]))), .c (frs (srt (rowL R most A[i])))] ∨ H = [.c [.sl (some (4, 0)) 12 (srt (rowL R most A[i])).length c, .i .i64 most], .c [.sl (some (3, 0)) 12 (rowL R most A[i]).length e, .i .i64 most], .dead, .c (frs (rowL R most A[i]) ++ X), .c (frs (srt (rowL R most A[i])) ++ Y), .c (frs (srt (rowL R most A[i]))), .c (frs (srt (rowL R most A[i])))])))) ?_ (fun r H hq => Gh.mono (R := fun rr HH => rr = [(96, .b false), (8, .i .i64 i), (7, .p (some (1, 0))), (5, .p (some (0, 0))), (4, .b false), (1, .rs (acs A) 0 13 A.length), (0, .i .i64 most)] ∧ ((rowL R most A[i] = [] ∧ HH = [.c [.sl none 0 0 0, .i .i64 most], .c [.sl none 0 0 0, .i .i64 most]]) ∨ ∃ c Y e X, (srt (rowL R most A[i])).length ≤ c ∧ Pl Y ∧ Y.length = (c - (srt (rowL R most A[i])).length) * 12 ∧ (rowL R most A[i]).length ≤ e ∧ Pl X ∧ X.length = (e - (rowL R most A[i]).length) * 12 ∧ HH = [.c [.sl (some (2, 0)) 12 (srt (rowL R most A[i])).length c, .i .i64 most], .c [.sl (some (3, 0)) 12 (rowL R most A[i]).length e, .i .i64 most], .c (frs (srt (rowL R most A[i])) ++ Y), .c (frs (rowL R most A[i]) ++ X)])) ?_ (fun rr HH hI => ?_)) (fun x r H hn h => absurd h.1 hn)
          · rcases hst2 with ⟨rfl, hR0, rfl⟩ | ⟨e, X, rfl, hR0, k4, k5, k6, rfl⟩ | ⟨c, Y, e, X, k1, k2, k3, k4, k5, k6, rfl⟩
            · have hdoes := does_nil2 A[i] ha most (by omega)
              have hactsn := hacts.1
              have hactsE := hacts.2
              rw [hs0] at hactsn hactsE
              have hdoes : ACall Try.prog 16 [.p (some (0, 0)), actAV A[i]] [.c [.sl none 0 0 0, .i .i64 most]] fun r H => r = .ret (.i .i64 (actE [] most A[i])) ∧ H = [.c [.sl none 0 0 0, .i .i64 most]] := by
                refine ACall.mono hdoes ?_
                rintro r H ⟨h3, ⟨_, h4⟩ | ⟨h4, _⟩⟩
                · exact ⟨h3, h4⟩
                · exact absurd (by rw [hactsn, hR0]; rfl) h4
              refine ADraw.phT tok mixed false [([0, 1, 2, 3, 4, 6], 5), ([7, 8, 9, 11], 10), ([], 12), ([], 13)] [14, 15, 16, 17, 19, 20, 21] (.node (.cons 18 (.node (.cons 22 (.node (.cons 23 (.node (.cons 24 (.node (.cons 25 (.node .nil) .nil)) .nil)) .nil)) .nil)) (.cons 22 (.node (.cons 18 (.node (.cons 23 (.node (.cons 24 (.node (.cons 25 (.node .nil) .nil)) .nil)) .nil)) (.cons 23 (.node (.cons 18 (.node (.cons 24 (.node (.cons 25 (.node .nil) .nil)) .nil)) .nil)) .nil))) .nil))) 12 (by kernel_rfl) (fun _ _ _ _ h => (by cases h.1)) ?_
              conv => whnf
              refine ⟨⟨by omega, h1⟩, ?_⟩
              conv => whnf
              refine aget_act (k := i) (by omega) hil ?_
              conv => whnf
              refine ACall.frameH [0] [] rfl (args' := [.p (some (0, 0)), actAV A[i]]) (Hc := [.c [.sl none 0 0 0, .i .i64 most]]) rfl rfl (hdoes) ?_
              rintro r H ⟨rfl, rfl⟩
              refine ⟨.inl rfl, [.c [.sl none 0 0 0, .i .i64 most], .c [.sl none 0 0 0, .i .i64 most]], rfl, ?_⟩
              conv => whnf
              repeat (refine acond_f hwant ?_; conv => whnf)
              refine ACall.frameH [0] [] rfl (args' := [.p (some (0, 0))]) (Hc := [.c [.sl none 0 0 0, .i .i64 most]]) rfl rfl (qall_nil most) ?_
              rintro r H ⟨rfl, rfl⟩
              refine ⟨.inl rfl, [.c [.sl none 0 0 0, .i .i64 most], .c [.sl none 0 0 0, .i .i64 most]], rfl, ?_⟩
              conv => whnf
              repeat (refine acond_f hwant ?_; conv => whnf)
              refine ACall.frameH [1] [] rfl (args' := [.p (some (0, 0))]) (Hc := [.c [.sl none 0 0 0, .i .i64 most]]) rfl rfl (rfall_nil most) ?_
              rintro r H ⟨d, rfl, rfl⟩
              refine ⟨.inl rfl, [.c [.sl none 0 0 0, .i .i64 most], .c [.sl none 0 0 0, .i .i64 most], .c (frs [])], rfl, ?_⟩
              conv => whnf
              repeat (refine acond_f hwant ?_; conv => whnf)
              refine ACall.frameH [] [2] rfl (args' := [.sl none 0 0 0, .rs (frs ([] : List Fr)) 0 12 ([] : List Fr).length]) (Hc := []) rfl rfl (ACall.args (same_spec [] [] (by simp)) (VLe.nilrs (VLe.cons VLe.nil))) ?_
              rintro r H ⟨rfl, rfl⟩
              rw [decide_eq_true rfl]
              refine ⟨.inr ⟨rfl, rfl⟩, [.c [.sl none 0 0 0, .i .i64 most], .c [.sl none 0 0 0, .i .i64 most], .c (frs [])], rfl, ?_⟩
              conv => whnf
              repeat (refine acond_f hwant ?_; conv => whnf)
              refine And.intro ?_ (And.intro ?_ trivial)
              · conv => whnf
                refine ACall.frameH [0] [] rfl (args' := [.p (some (0, 0))]) (Hc := [.c [.sl none 0 0 0, .i .i64 most]]) rfl rfl (qlen_spec none 0 0 0 (.i .i64 most) []) ?_
                rintro r H ⟨rfl, rfl⟩
                refine ⟨.inl rfl, [.c [.sl none 0 0 0, .i .i64 most], .c [.sl none 0 0 0, .i .i64 most], .c (frs [])], rfl, ?_⟩
                conv => whnf
                repeat (refine acond_f hwant ?_; conv => whnf)
                conv => whnf
                exact ⟨rfl, rfl, .inl ⟨hR0, rfl⟩⟩
              · conv => whnf
                refine And.intro ?_ (And.intro ?_ trivial)
                · conv => whnf
                  refine ACall.frameH [0] [] rfl (args' := [.p (some (0, 0))]) (Hc := [.c [.sl none 0 0 0, .i .i64 most]]) rfl rfl (qlen_spec none 0 0 0 (.i .i64 most) []) ?_
                  rintro r H ⟨rfl, rfl⟩
                  refine ⟨.inl rfl, [.c [.sl none 0 0 0, .i .i64 most], .c [.sl none 0 0 0, .i .i64 most], .c (frs [])], rfl, ?_⟩
                  conv => whnf
                  repeat (refine acond_f hwant ?_; conv => whnf)
                  conv => whnf
                  exact ⟨rfl, rfl, .inl ⟨hR0, rfl⟩⟩
                · conv => whnf
                  refine ACall.frameH [0] [] rfl (args' := [.p (some (0, 0))]) (Hc := [.c [.sl none 0 0 0, .i .i64 most]]) rfl rfl (qlen_spec none 0 0 0 (.i .i64 most) []) ?_
                  rintro r H ⟨rfl, rfl⟩
                  refine ⟨.inl rfl, [.c [.sl none 0 0 0, .i .i64 most], .c [.sl none 0 0 0, .i .i64 most], .c (frs [])], rfl, ?_⟩
                  conv => whnf
                  repeat (refine acond_f hwant ?_; conv => whnf)
                  conv => whnf
                  exact ⟨rfl, rfl, .inl ⟨hR0, rfl⟩⟩
            · have hzX : ∀ φ, subs φ (frs (rowL [] most A[i]) ++ X) = frs (rowL [] most A[i]) ++ X := (Pl.frs _).app k5
              have hdoes := does_nil2 A[i] ha most (by omega)
              have hactsn := hacts.1
              rw [hs0] at hactsn
              have hdoes : ACall Try.prog 16 [.p (some (0, 0)), actAV A[i]] [.c [.sl none 0 0 0, .i .i64 most]] fun r H => r = .ret (.i .i64 (actE [] most A[i])) ∧ QIn (srt (rowL [] most A[i])) most H := by
                refine ACall.mono hdoes ?_
                rintro r H ⟨h3, ⟨h4, _⟩ | ⟨_, h4⟩⟩
                · exact absurd (List.eq_nil_of_length_eq_zero (by rw [← srt_length, ← hactsn, h4]; rfl)) hR0
                · exact ⟨h3, hactsn ▸ h4⟩
              clear hactsn
              refine ADraw.phT tok mixed false [([0, 1, 2, 3, 4, 6], 5), ([7, 8, 9, 11], 10), ([], 12), ([], 13)] [14, 15, 16, 17, 19, 20, 21] (.node (.cons 18 (.node (.cons 22 (.node (.cons 23 (.node (.cons 24 (.node (.cons 25 (.node .nil) .nil)) .nil)) .nil)) .nil)) (.cons 22 (.node (.cons 18 (.node (.cons 23 (.node (.cons 24 (.node (.cons 25 (.node .nil) .nil)) .nil)) .nil)) (.cons 23 (.node (.cons 18 (.node (.cons 24 (.node (.cons 25 (.node .nil) .nil)) .nil)) .nil)) .nil))) .nil))) 12 (by kernel_rfl) (fun _ _ _ _ h => (by cases h.1)) ?_
              conv => whnf
              refine ⟨⟨by omega, h1⟩, ?_⟩
              conv => whnf
              refine aget_act (k := i) (by omega) hil ?_
              conv => whnf
              refine ACall.frameH [0] [] rfl (args' := [.p (some (0, 0)), actAV A[i]]) (Hc := [.c [.sl none 0 0 0, .i .i64 most]]) rfl rfl (hdoes) ?_
              rintro r H ⟨rfl, c, Y, k1, k2, k3, rfl⟩
              have hzY : ∀ φ, subs φ (frs (srt (rowL [] most A[i])) ++ Y) = frs (srt (rowL [] most A[i])) ++ Y := (Pl.frs _).app k2
              refine ⟨.inl rfl, [.c [.sl (some (3, 0)) 12 (srt (rowL [] most A[i])).length c, .i .i64 most], .c [.sl (some (2, 0)) 12 (rowL [] most A[i]).length e, .i .i64 most], .c (frs (rowL [] most A[i]) ++ X), .c (frs (srt (rowL [] most A[i])) ++ Y)], (by show [_, _, _, Blk.c (subs _ _)] = _; simp only [hzY]; rfl), ?_⟩
              conv => whnf
              repeat (refine acond_f hwant ?_; conv => whnf)
              refine ACall.frameH [0, 3] [] rfl (args' := [.p (some (0, 0))]) (Hc := [.c [.sl (some (1, 0)) 12 (srt (rowL [] most A[i])).length c, .i .i64 most], .c (frs (srt (rowL [] most A[i])) ++ Y)]) rfl (by show [_, Blk.c (subs _ _)] = _; simp only [hzY]; rfl) (qall_spec (srt (rowL [] most A[i])) most c Y k2 (by omega)) ?_
              rintro r H ⟨d, hd, rfl, rfl⟩
              refine ⟨.inl rfl, [.c [.sl (some (3, 0)) 12 (srt (rowL [] most A[i])).length c, .i .i64 most], .c [.sl (some (2, 0)) 12 (rowL [] most A[i]).length e, .i .i64 most], .c (frs (rowL [] most A[i]) ++ X), .c (frs (srt (rowL [] most A[i])) ++ Y), .c (frs (srt (rowL [] most A[i])))], (by show [_, _, _, Blk.c (subs _ _), Blk.c (subs _ _)] = _; simp only [hzY, subs_frs]; rfl), ?_⟩
              conv => whnf
              repeat (refine acond_f hwant ?_; conv => whnf)
              refine ACall.frameH [1, 2] [] rfl (args' := [.p (some (0, 0))]) (Hc := [.c [.sl (some (1, 0)) 12 (rowL [] most A[i]).length e, .i .i64 most], .c (frs (rowL [] most A[i]) ++ X)]) rfl (by show [_, Blk.c (subs _ _)] = _; simp only [hzX]; rfl) (rfall_spec (rowL [] most A[i]) hm2' most e X k5 (by omega)) ?_
              rintro r H ⟨d2, hd2, rfl, rfl⟩
              refine ⟨.inl rfl, [.c [.sl (some (3, 0)) 12 (srt (rowL [] most A[i])).length c, .i .i64 most], .c [.sl (some (2, 0)) 12 (rowL [] most A[i]).length e, .i .i64 most], .c (frs (rowL [] most A[i]) ++ X), .c (frs (srt (rowL [] most A[i])) ++ Y), .c (frs (srt (rowL [] most A[i]))), .c (frs (srt (rowL [] most A[i])))], (by show [_, _, Blk.c (subs _ _), _, _, Blk.c (subs _ _)] = _; simp only [hzX, subs_frs]; rfl), ?_⟩
              conv => whnf
              repeat (refine acond_f hwant ?_; conv => whnf)
              refine ACall.frameH [] [4, 5] rfl (args' := [.rs (frs (srt (rowL [] most A[i]))) 0 12 (srt (rowL [] most A[i])).length, .rs (frs (srt (rowL [] most A[i]))) 0 12 (srt (rowL [] most A[i])).length]) (Hc := []) (by show [AV.rs (subs _ (frs (srt (rowL [] most A[i])))) 0 12 (srt (rowL [] most A[i])).length, AV.rs (subs _ (frs (srt (rowL [] most A[i])))) 0 12 (srt (rowL [] most A[i])).length] = _; simp only [subs_frs]) rfl (same_spec (srt (rowL [] most A[i])) (srt (rowL [] most A[i])) (by omega)) ?_
              rintro r H ⟨rfl, rfl⟩
              rw [decide_eq_true rfl]
              refine ⟨.inr ⟨rfl, rfl⟩, [.c [.sl (some (3, 0)) 12 (srt (rowL [] most A[i])).length c, .i .i64 most], .c [.sl (some (2, 0)) 12 (rowL [] most A[i]).length e, .i .i64 most], .c (frs (rowL [] most A[i]) ++ X), .c (frs (srt (rowL [] most A[i])) ++ Y), .c (frs (srt (rowL [] most A[i]))), .c (frs (srt (rowL [] most A[i])))], rfl, ?_⟩
              conv => whnf
              repeat (refine acond_f hwant ?_; conv => whnf)
              refine And.intro ?_ (And.intro ?_ trivial)
              · conv => whnf
                refine ACall.frameH [0, 3] [] rfl (args' := [.p (some (0, 0))]) (Hc := [.c [.sl (some (1, 0)) 12 (srt (rowL [] most A[i])).length c, .i .i64 most], .c (frs (srt (rowL [] most A[i])) ++ Y)]) rfl (by show [_, Blk.c (subs _ _)] = _; simp only [hzY]; rfl) (qlen_spec (some (1, 0)) 12 (srt (rowL [] most A[i])).length c (.i .i64 most) [.c (frs (srt (rowL [] most A[i])) ++ Y)]) ?_
                rintro r H ⟨rfl, rfl⟩
                refine ⟨.inl rfl, [.c [.sl (some (3, 0)) 12 (srt (rowL [] most A[i])).length c, .i .i64 most], .c [.sl (some (2, 0)) 12 (rowL [] most A[i]).length e, .i .i64 most], .c (frs (rowL [] most A[i]) ++ X), .c (frs (srt (rowL [] most A[i])) ++ Y), .c (frs (srt (rowL [] most A[i]))), .c (frs (srt (rowL [] most A[i])))], (by show [_, _, _, Blk.c (subs _ _), _, _] = _; simp only [hzY]; rfl), ?_⟩
                conv => whnf
                repeat (refine acond_f hwant ?_; conv => whnf)
                conv => whnf
                refine ⟨rfl, (show keepR _ _ = [(96, .b (((srt (rowL [] most A[i])).length : Int) != ((rowL [] most A[i]).length : Int))), _, _, _, _, _, _] from rfl).trans (by rw [hne]), .inr ⟨c, Y, e, X, k1, k2, k3, k4, k5, k6, .inl rfl⟩⟩
              · conv => whnf
                refine And.intro ?_ (And.intro ?_ trivial)
                · conv => whnf
                  refine ACall.frameH [0, 3] [] rfl (args' := [.p (some (0, 0))]) (Hc := [.c [.sl (some (1, 0)) 12 (srt (rowL [] most A[i])).length c, .i .i64 most], .c (frs (srt (rowL [] most A[i])) ++ Y)]) rfl (by show [_, Blk.c (subs _ _)] = _; simp only [hzY]; rfl) (qlen_spec (some (1, 0)) 12 (srt (rowL [] most A[i])).length c (.i .i64 most) [.c (frs (srt (rowL [] most A[i])) ++ Y)]) ?_
                  rintro r H ⟨rfl, rfl⟩
                  refine ⟨.inl rfl, [.c [.sl (some (3, 0)) 12 (srt (rowL [] most A[i])).length c, .i .i64 most], .c [.sl (some (2, 0)) 12 (rowL [] most A[i]).length e, .i .i64 most], .c (frs (rowL [] most A[i]) ++ X), .c (frs (srt (rowL [] most A[i])) ++ Y), .c (frs (srt (rowL [] most A[i]))), .c (frs (srt (rowL [] most A[i])))], (by show [_, _, _, Blk.c (subs _ _), _, _] = _; simp only [hzY]; rfl), ?_⟩
                  conv => whnf
                  repeat (refine acond_f hwant ?_; conv => whnf)
                  conv => whnf
                  refine ⟨rfl, (show keepR _ _ = [(96, .b (((srt (rowL [] most A[i])).length : Int) != ((rowL [] most A[i]).length : Int))), _, _, _, _, _, _] from rfl).trans (by rw [hne]), .inr ⟨c, Y, e, X, k1, k2, k3, k4, k5, k6, .inl rfl⟩⟩
                · conv => whnf
                  refine ACall.frameH [0, 3] [] rfl (args' := [.p (some (0, 0))]) (Hc := [.c [.sl (some (1, 0)) 12 (srt (rowL [] most A[i])).length c, .i .i64 most], .c (frs (srt (rowL [] most A[i])) ++ Y)]) rfl (by show [_, Blk.c (subs _ _)] = _; simp only [hzY]; rfl) (qlen_spec (some (1, 0)) 12 (srt (rowL [] most A[i])).length c (.i .i64 most) [.c (frs (srt (rowL [] most A[i])) ++ Y)]) ?_
                  rintro r H ⟨rfl, rfl⟩
                  refine ⟨.inl rfl, [.c [.sl (some (3, 0)) 12 (srt (rowL [] most A[i])).length c, .i .i64 most], .c [.sl (some (2, 0)) 12 (rowL [] most A[i]).length e, .i .i64 most], .c (frs (rowL [] most A[i]) ++ X), .c (frs (srt (rowL [] most A[i])) ++ Y), .c (frs (srt (rowL [] most A[i]))), .c (frs (srt (rowL [] most A[i])))], (by show [_, _, _, Blk.c (subs _ _), _, _] = _; simp only [hzY]; rfl), ?_⟩
                  conv => whnf
                  repeat (refine acond_f hwant ?_; conv => whnf)
                  conv => whnf
                  refine ⟨rfl, (show keepR _ _ = [(96, .b (((srt (rowL [] most A[i])).length : Int) != ((rowL [] most A[i]).length : Int))), _, _, _, _, _, _] from rfl).trans (by rw [hne]), .inr ⟨c, Y, e, X, k1, k2, k3, k4, k5, k6, .inl rfl⟩⟩
            · have hzX : ∀ φ, subs φ (frs (rowL R most A[i]) ++ X) = frs (rowL R most A[i]) ++ X := (Pl.frs _).app k5
              have hzY0 : ∀ φ, subs φ (frs (srt R) ++ Y) = frs (srt R) ++ Y := (Pl.frs _).app k2
              have hdoes := does_spec (srt R) (fun F h => (hok F (srt_mem.1 h)).2) A[i] ha most c Y k1 k2 k3 (by omega)
              rw [hacts.1, hacts.2] at hdoes
              refine ADraw.phT tok mixed false [([0, 1, 2, 3, 4, 6], 5), ([7, 8, 9, 11], 10), ([], 12), ([], 13)] [14, 15, 16, 17, 19, 20, 21] (.node (.cons 18 (.node (.cons 22 (.node (.cons 23 (.node (.cons 24 (.node (.cons 25 (.node .nil) .nil)) .nil)) .nil)) .nil)) (.cons 22 (.node (.cons 18 (.node (.cons 23 (.node (.cons 24 (.node (.cons 25 (.node .nil) .nil)) .nil)) .nil)) (.cons 23 (.node (.cons 18 (.node (.cons 24 (.node (.cons 25 (.node .nil) .nil)) .nil)) .nil)) .nil))) .nil))) 12 (by kernel_rfl) (fun _ _ _ _ h => (by cases h.1)) ?_
              conv => whnf
              refine ⟨⟨by omega, h1⟩, ?_⟩
              conv => whnf
              refine aget_act (k := i) (by omega) hil ?_
              conv => whnf
              refine ACall.frameH [0, 2] [] rfl (args' := [.p (some (0, 0)), actAV A[i]]) (Hc := [.c [.sl (some (1, 0)) 12 (srt R).length c, .i .i64 most], .c (frs (srt R) ++ Y)]) rfl (by show [_, Blk.c (subs _ _)] = _; simp only [hzY0]; rfl) (hdoes) ?_
              rintro r H ⟨rfl, ⟨c, Y, k1, k2, k3, rfl⟩ | ⟨c, Y, k1, k2, k3, rfl⟩⟩
              · have hzY : ∀ φ, subs φ (frs (srt (rowL R most A[i])) ++ Y) = frs (srt (rowL R most A[i])) ++ Y := (Pl.frs _).app k2
                refine ⟨.inl rfl, [.c [.sl (some (2, 0)) 12 (srt (rowL R most A[i])).length c, .i .i64 most], .c [.sl (some (3, 0)) 12 (rowL R most A[i]).length e, .i .i64 most], .c (frs (srt (rowL R most A[i])) ++ Y), .c (frs (rowL R most A[i]) ++ X)], (by show [_, _, Blk.c (subs _ _), _] = _; simp only [hzY]; rfl), ?_⟩
                conv => whnf
                repeat (refine acond_f hwant ?_; conv => whnf)
                refine ACall.frameH [0, 2] [] rfl (args' := [.p (some (0, 0))]) (Hc := [.c [.sl (some (1, 0)) 12 (srt (rowL R most A[i])).length c, .i .i64 most], .c (frs (srt (rowL R most A[i])) ++ Y)]) rfl (by show [_, Blk.c (subs _ _)] = _; simp only [hzY]; rfl) (qall_spec (srt (rowL R most A[i])) most c Y k2 (by omega)) ?_
                rintro r H ⟨d, hd, rfl, rfl⟩
                refine ⟨.inl rfl, [.c [.sl (some (2, 0)) 12 (srt (rowL R most A[i])).length c, .i .i64 most], .c [.sl (some (3, 0)) 12 (rowL R most A[i]).length e, .i .i64 most], .c (frs (srt (rowL R most A[i])) ++ Y), .c (frs (rowL R most A[i]) ++ X), .c (frs (srt (rowL R most A[i])))], (by show [_, _, Blk.c (subs _ _), _, Blk.c (subs _ _)] = _; simp only [hzY, subs_frs]; rfl), ?_⟩
                conv => whnf
                repeat (refine acond_f hwant ?_; conv => whnf)
                refine ACall.frameH [1, 3] [] rfl (args' := [.p (some (0, 0))]) (Hc := [.c [.sl (some (1, 0)) 12 (rowL R most A[i]).length e, .i .i64 most], .c (frs (rowL R most A[i]) ++ X)]) rfl (by show [_, Blk.c (subs _ _)] = _; simp only [hzX]; rfl) (rfall_spec (rowL R most A[i]) hm2' most e X k5 (by omega)) ?_
                rintro r H ⟨d2, hd2, rfl, rfl⟩
                refine ⟨.inl rfl, [.c [.sl (some (2, 0)) 12 (srt (rowL R most A[i])).length c, .i .i64 most], .c [.sl (some (3, 0)) 12 (rowL R most A[i]).length e, .i .i64 most], .c (frs (srt (rowL R most A[i])) ++ Y), .c (frs (rowL R most A[i]) ++ X), .c (frs (srt (rowL R most A[i]))), .c (frs (srt (rowL R most A[i])))], (by show [_, _, _, Blk.c (subs _ _), _, Blk.c (subs _ _)] = _; simp only [hzX, subs_frs]; rfl), ?_⟩
                conv => whnf
                repeat (refine acond_f hwant ?_; conv => whnf)
                refine ACall.frameH [] [4, 5] rfl (args' := [.rs (frs (srt (rowL R most A[i]))) 0 12 (srt (rowL R most A[i])).length, .rs (frs (srt (rowL R most A[i]))) 0 12 (srt (rowL R most A[i])).length]) (Hc := []) (by show [AV.rs (subs _ (frs (srt (rowL R most A[i])))) 0 12 (srt (rowL R most A[i])).length, AV.rs (subs _ (frs (srt (rowL R most A[i])))) 0 12 (srt (rowL R most A[i])).length] = _; simp only [subs_frs]) rfl (same_spec (srt (rowL R most A[i])) (srt (rowL R most A[i])) (by omega)) ?_
                rintro r H ⟨rfl, rfl⟩
                rw [decide_eq_true rfl]
                refine ⟨.inr ⟨rfl, rfl⟩, [.c [.sl (some (2, 0)) 12 (srt (rowL R most A[i])).length c, .i .i64 most], .c [.sl (some (3, 0)) 12 (rowL R most A[i]).length e, .i .i64 most], .c (frs (srt (rowL R most A[i])) ++ Y), .c (frs (rowL R most A[i]) ++ X), .c (frs (srt (rowL R most A[i]))), .c (frs (srt (rowL R most A[i])))], rfl, ?_⟩
                conv => whnf
                repeat (refine acond_f hwant ?_; conv => whnf)
                refine And.intro ?_ (And.intro ?_ trivial)
                · conv => whnf
                  refine ACall.frameH [0, 2] [] rfl (args' := [.p (some (0, 0))]) (Hc := [.c [.sl (some (1, 0)) 12 (srt (rowL R most A[i])).length c, .i .i64 most], .c (frs (srt (rowL R most A[i])) ++ Y)]) rfl (by show [_, Blk.c (subs _ _)] = _; simp only [hzY]; rfl) (qlen_spec (some (1, 0)) 12 (srt (rowL R most A[i])).length c (.i .i64 most) [.c (frs (srt (rowL R most A[i])) ++ Y)]) ?_
                  rintro r H ⟨rfl, rfl⟩
                  refine ⟨.inl rfl, [.c [.sl (some (2, 0)) 12 (srt (rowL R most A[i])).length c, .i .i64 most], .c [.sl (some (3, 0)) 12 (rowL R most A[i]).length e, .i .i64 most], .c (frs (srt (rowL R most A[i])) ++ Y), .c (frs (rowL R most A[i]) ++ X), .c (frs (srt (rowL R most A[i]))), .c (frs (srt (rowL R most A[i])))], (by show [_, _, Blk.c (subs _ _), _, _, _] = _; simp only [hzY]; rfl), ?_⟩
                  conv => whnf
                  repeat (refine acond_f hwant ?_; conv => whnf)
                  conv => whnf
                  refine ⟨rfl, (show keepR _ _ = [(96, .b (((srt (rowL R most A[i])).length : Int) != ((rowL R most A[i]).length : Int))), _, _, _, _, _, _] from rfl).trans (by rw [hne]), .inr ⟨c, Y, e, X, k1, k2, k3, k4, k5, k6, .inr (.inl rfl)⟩⟩
                · conv => whnf
                  refine And.intro ?_ (And.intro ?_ trivial)
                  · conv => whnf
                    refine ACall.frameH [0, 2] [] rfl (args' := [.p (some (0, 0))]) (Hc := [.c [.sl (some (1, 0)) 12 (srt (rowL R most A[i])).length c, .i .i64 most], .c (frs (srt (rowL R most A[i])) ++ Y)]) rfl (by show [_, Blk.c (subs _ _)] = _; simp only [hzY]; rfl) (qlen_spec (some (1, 0)) 12 (srt (rowL R most A[i])).length c (.i .i64 most) [.c (frs (srt (rowL R most A[i])) ++ Y)]) ?_
                    rintro r H ⟨rfl, rfl⟩
                    refine ⟨.inl rfl, [.c [.sl (some (2, 0)) 12 (srt (rowL R most A[i])).length c, .i .i64 most], .c [.sl (some (3, 0)) 12 (rowL R most A[i]).length e, .i .i64 most], .c (frs (srt (rowL R most A[i])) ++ Y), .c (frs (rowL R most A[i]) ++ X), .c (frs (srt (rowL R most A[i]))), .c (frs (srt (rowL R most A[i])))], (by show [_, _, Blk.c (subs _ _), _, _, _] = _; simp only [hzY]; rfl), ?_⟩
                    conv => whnf
                    repeat (refine acond_f hwant ?_; conv => whnf)
                    conv => whnf
                    refine ⟨rfl, (show keepR _ _ = [(96, .b (((srt (rowL R most A[i])).length : Int) != ((rowL R most A[i]).length : Int))), _, _, _, _, _, _] from rfl).trans (by rw [hne]), .inr ⟨c, Y, e, X, k1, k2, k3, k4, k5, k6, .inr (.inl rfl)⟩⟩
                  · conv => whnf
                    refine ACall.frameH [0, 2] [] rfl (args' := [.p (some (0, 0))]) (Hc := [.c [.sl (some (1, 0)) 12 (srt (rowL R most A[i])).length c, .i .i64 most], .c (frs (srt (rowL R most A[i])) ++ Y)]) rfl (by show [_, Blk.c (subs _ _)] = _; simp only [hzY]; rfl) (qlen_spec (some (1, 0)) 12 (srt (rowL R most A[i])).length c (.i .i64 most) [.c (frs (srt (rowL R most A[i])) ++ Y)]) ?_
                    rintro r H ⟨rfl, rfl⟩
                    refine ⟨.inl rfl, [.c [.sl (some (2, 0)) 12 (srt (rowL R most A[i])).length c, .i .i64 most], .c [.sl (some (3, 0)) 12 (rowL R most A[i]).length e, .i .i64 most], .c (frs (srt (rowL R most A[i])) ++ Y), .c (frs (rowL R most A[i]) ++ X), .c (frs (srt (rowL R most A[i]))), .c (frs (srt (rowL R most A[i])))], (by show [_, _, Blk.c (subs _ _), _, _, _] = _; simp only [hzY]; rfl), ?_⟩
                    conv => whnf
                    repeat (refine acond_f hwant ?_; conv => whnf)
                    conv => whnf
                    refine ⟨rfl, (show keepR _ _ = [(96, .b (((srt (rowL R most A[i])).length : Int) != ((rowL R most A[i]).length : Int))), _, _, _, _, _, _] from rfl).trans (by rw [hne]), .inr ⟨c, Y, e, X, k1, k2, k3, k4, k5, k6, .inr (.inl rfl)⟩⟩
              · have hzY : ∀ φ, subs φ (frs (srt (rowL R most A[i])) ++ Y) = frs (srt (rowL R most A[i])) ++ Y := (Pl.frs _).app k2
                refine ⟨.inl rfl, [.c [.sl (some (4, 0)) 12 (srt (rowL R most A[i])).length c, .i .i64 most], .c [.sl (some (3, 0)) 12 (rowL R most A[i]).length e, .i .i64 most], .dead, .c (frs (rowL R most A[i]) ++ X), .c (frs (srt (rowL R most A[i])) ++ Y)], (by show [_, _, _, _, Blk.c (subs _ _)] = _; simp only [hzY]; rfl), ?_⟩
                conv => whnf
                repeat (refine acond_f hwant ?_; conv => whnf)
                refine ACall.frameH [0, 4] [] rfl (args' := [.p (some (0, 0))]) (Hc := [.c [.sl (some (1, 0)) 12 (srt (rowL R most A[i])).length c, .i .i64 most], .c (frs (srt (rowL R most A[i])) ++ Y)]) rfl (by show [_, Blk.c (subs _ _)] = _; simp only [hzY]; rfl) (qall_spec (srt (rowL R most A[i])) most c Y k2 (by omega)) ?_
                rintro r H ⟨d, hd, rfl, rfl⟩
                refine ⟨.inl rfl, [.c [.sl (some (4, 0)) 12 (srt (rowL R most A[i])).length c, .i .i64 most], .c [.sl (some (3, 0)) 12 (rowL R most A[i]).length e, .i .i64 most], .dead, .c (frs (rowL R most A[i]) ++ X), .c (frs (srt (rowL R most A[i])) ++ Y), .c (frs (srt (rowL R most A[i])))], (by show [_, _, _, _, Blk.c (subs _ _), Blk.c (subs _ _)] = _; simp only [hzY, subs_frs]; rfl), ?_⟩
                conv => whnf
                repeat (refine acond_f hwant ?_; conv => whnf)
                refine ACall.frameH [1, 3] [] rfl (args' := [.p (some (0, 0))]) (Hc := [.c [.sl (some (1, 0)) 12 (rowL R most A[i]).length e, .i .i64 most], .c (frs (rowL R most A[i]) ++ X)]) rfl (by show [_, Blk.c (subs _ _)] = _; simp only [hzX]; rfl) (rfall_spec (rowL R most A[i]) hm2' most e X k5 (by omega)) ?_
                rintro r H ⟨d2, hd2, rfl, rfl⟩
                refine ⟨.inl rfl, [.c [.sl (some (4, 0)) 12 (srt (rowL R most A[i])).length c, .i .i64 most], .c [.sl (some (3, 0)) 12 (rowL R most A[i]).length e, .i .i64 most], .dead, .c (frs (rowL R most A[i]) ++ X), .c (frs (srt (rowL R most A[i])) ++ Y), .c (frs (srt (rowL R most A[i]))), .c (frs (srt (rowL R most A[i])))], (by show [_, _, _, Blk.c (subs _ _), _, _, Blk.c (subs _ _)] = _; simp only [hzX, subs_frs]; rfl), ?_⟩
                conv => whnf
                repeat (refine acond_f hwant ?_; conv => whnf)
                refine ACall.frameH [] [5, 6] rfl (args' := [.rs (frs (srt (rowL R most A[i]))) 0 12 (srt (rowL R most A[i])).length, .rs (frs (srt (rowL R most A[i]))) 0 12 (srt (rowL R most A[i])).length]) (Hc := []) (by show [AV.rs (subs _ (frs (srt (rowL R most A[i])))) 0 12 (srt (rowL R most A[i])).length, AV.rs (subs _ (frs (srt (rowL R most A[i])))) 0 12 (srt (rowL R most A[i])).length] = _; simp only [subs_frs]) rfl (same_spec (srt (rowL R most A[i])) (srt (rowL R most A[i])) (by omega)) ?_
                rintro r H ⟨rfl, rfl⟩
                rw [decide_eq_true rfl]
                refine ⟨.inr ⟨rfl, rfl⟩, [.c [.sl (some (4, 0)) 12 (srt (rowL R most A[i])).length c, .i .i64 most], .c [.sl (some (3, 0)) 12 (rowL R most A[i]).length e, .i .i64 most], .dead, .c (frs (rowL R most A[i]) ++ X), .c (frs (srt (rowL R most A[i])) ++ Y), .c (frs (srt (rowL R most A[i]))), .c (frs (srt (rowL R most A[i])))], rfl, ?_⟩
                conv => whnf
                repeat (refine acond_f hwant ?_; conv => whnf)
                refine And.intro ?_ (And.intro ?_ trivial)
                · conv => whnf
                  refine ACall.frameH [0, 4] [] rfl (args' := [.p (some (0, 0))]) (Hc := [.c [.sl (some (1, 0)) 12 (srt (rowL R most A[i])).length c, .i .i64 most], .c (frs (srt (rowL R most A[i])) ++ Y)]) rfl (by show [_, Blk.c (subs _ _)] = _; simp only [hzY]; rfl) (qlen_spec (some (1, 0)) 12 (srt (rowL R most A[i])).length c (.i .i64 most) [.c (frs (srt (rowL R most A[i])) ++ Y)]) ?_
                  rintro r H ⟨rfl, rfl⟩
                  refine ⟨.inl rfl, [.c [.sl (some (4, 0)) 12 (srt (rowL R most A[i])).length c, .i .i64 most], .c [.sl (some (3, 0)) 12 (rowL R most A[i]).length e, .i .i64 most], .dead, .c (frs (rowL R most A[i]) ++ X), .c (frs (srt (rowL R most A[i])) ++ Y), .c (frs (srt (rowL R most A[i]))), .c (frs (srt (rowL R most A[i])))], (by show [_, _, _, _, Blk.c (subs _ _), _, _] = _; simp only [hzY]; rfl), ?_⟩
                  conv => whnf
                  repeat (refine acond_f hwant ?_; conv => whnf)
                  conv => whnf
                  refine ⟨rfl, (show keepR _ _ = [(96, .b (((srt (rowL R most A[i])).length : Int) != ((rowL R most A[i]).length : Int))), _, _, _, _, _, _] from rfl).trans (by rw [hne]), .inr ⟨c, Y, e, X, k1, k2, k3, k4, k5, k6, .inr (.inr rfl)⟩⟩
                · conv => whnf
                  refine And.intro ?_ (And.intro ?_ trivial)
                  · conv => whnf
                    refine ACall.frameH [0, 4] [] rfl (args' := [.p (some (0, 0))]) (Hc := [.c [.sl (some (1, 0)) 12 (srt (rowL R most A[i])).length c, .i .i64 most], .c (frs (srt (rowL R most A[i])) ++ Y)]) rfl (by show [_, Blk.c (subs _ _)] = _; simp only [hzY]; rfl) (qlen_spec (some (1, 0)) 12 (srt (rowL R most A[i])).length c (.i .i64 most) [.c (frs (srt (rowL R most A[i])) ++ Y)]) ?_
                    rintro r H ⟨rfl, rfl⟩
                    refine ⟨.inl rfl, [.c [.sl (some (4, 0)) 12 (srt (rowL R most A[i])).length c, .i .i64 most], .c [.sl (some (3, 0)) 12 (rowL R most A[i]).length e, .i .i64 most], .dead, .c (frs (rowL R most A[i]) ++ X), .c (frs (srt (rowL R most A[i])) ++ Y), .c (frs (srt (rowL R most A[i]))), .c (frs (srt (rowL R most A[i])))], (by show [_, _, _, _, Blk.c (subs _ _), _, _] = _; simp only [hzY]; rfl), ?_⟩
                    conv => whnf
                    repeat (refine acond_f hwant ?_; conv => whnf)
                    conv => whnf
                    refine ⟨rfl, (show keepR _ _ = [(96, .b (((srt (rowL R most A[i])).length : Int) != ((rowL R most A[i]).length : Int))), _, _, _, _, _, _] from rfl).trans (by rw [hne]), .inr ⟨c, Y, e, X, k1, k2, k3, k4, k5, k6, .inr (.inr rfl)⟩⟩
                  · conv => whnf
                    refine ACall.frameH [0, 4] [] rfl (args' := [.p (some (0, 0))]) (Hc := [.c [.sl (some (1, 0)) 12 (srt (rowL R most A[i])).length c, .i .i64 most], .c (frs (srt (rowL R most A[i])) ++ Y)]) rfl (by show [_, Blk.c (subs _ _)] = _; simp only [hzY]; rfl) (qlen_spec (some (1, 0)) 12 (srt (rowL R most A[i])).length c (.i .i64 most) [.c (frs (srt (rowL R most A[i])) ++ Y)]) ?_
                    rintro r H ⟨rfl, rfl⟩
                    refine ⟨.inl rfl, [.c [.sl (some (4, 0)) 12 (srt (rowL R most A[i])).length c, .i .i64 most], .c [.sl (some (3, 0)) 12 (rowL R most A[i]).length e, .i .i64 most], .dead, .c (frs (rowL R most A[i]) ++ X), .c (frs (srt (rowL R most A[i])) ++ Y), .c (frs (srt (rowL R most A[i]))), .c (frs (srt (rowL R most A[i])))], (by show [_, _, _, _, Blk.c (subs _ _), _, _] = _; simp only [hzY]; rfl), ?_⟩
                    conv => whnf
                    repeat (refine acond_f hwant ?_; conv => whnf)
                    conv => whnf
                    refine ⟨rfl, (show keepR _ _ = [(96, .b (((srt (rowL R most A[i])).length : Int) != ((rowL R most A[i]).length : Int))), _, _, _, _, _, _] from rfl).trans (by rw [hne]), .inr ⟨c, Y, e, X, k1, k2, k3, k4, k5, k6, .inr (.inr rfl)⟩⟩
          · obtain ⟨_, hkr, ⟨hR0, rfl⟩ | ⟨c, Y, e, X, k1, k2, k3, k4, k5, k6, hH⟩⟩ := hq
            · refine Gh.regs [96, 8, 7, 5, 4, 1, 0] (Gh.sel [0, 1] rfl (Gh.of ⟨?_, .inl ⟨hR0, rfl⟩⟩))
              refine keep_eq hkr ?_
              simp only [subG, sub, subs_acs]
              rfl
            · have hzX : ∀ φ, subs φ (frs (rowL R most A[i]) ++ X) = frs (rowL R most A[i]) ++ X := (Pl.frs _).app k5
              have hzY : ∀ φ, subs φ (frs (srt (rowL R most A[i])) ++ Y) = frs (srt (rowL R most A[i])) ++ Y := (Pl.frs _).app k2
              rcases hH with rfl | rfl | rfl
              · refine Gh.regs [96, 8, 7, 5, 4, 1, 0] (Gh.sel [0, 1, 3, 2] rfl (Gh.of ⟨?_, .inr ⟨c, Y, e, X, k1, k2, k3, k4, k5, k6, (by show [_, _, Blk.c (subs _ _), Blk.c (subs _ _)] = _; simp only [hzY, hzX]; rfl)⟩⟩))
                refine keep_eq hkr ?_
                simp only [subG, sub, subs_acs]
                rfl
              · refine Gh.regs [96, 8, 7, 5, 4, 1, 0] (Gh.sel [0, 1, 2, 3] rfl (Gh.of ⟨?_, .inr ⟨c, Y, e, X, k1, k2, k3, k4, k5, k6, (by show [_, _, Blk.c (subs _ _), Blk.c (subs _ _)] = _; simp only [hzY, hzX]; rfl)⟩⟩))
                refine keep_eq hkr ?_
                simp only [subG, sub, subs_acs]
                rfl
              · refine Gh.regs [96, 8, 7, 5, 4, 1, 0] (Gh.sel [0, 1, 4, 3] rfl (Gh.of ⟨?_, .inr ⟨c, Y, e, X, k1, k2, k3, k4, k5, k6, (by show [_, _, Blk.c (subs _ _), Blk.c (subs _ _)] = _; simp only [hzY, hzX]; rfl)⟩⟩))
                refine keep_eq hkr ?_
                simp only [subG, sub, subs_acs]
                rfl
          · obtain ⟨rfl, ⟨hR0, rfl⟩ | ⟨c, Y, e, X, k1, k2, k3, k4, k5, k6, rfl⟩⟩ := hI
            · conv => whnf
              refine ACall.frameH [0] [] rfl (args' := [.p (some (0, 0))]) (Hc := [.c [.sl none 0 0 0, .i .i64 most]]) rfl rfl (qfirst_nil most) ?_
              rintro r H ⟨rfl, rfl⟩
              refine ⟨.inl rfl, [.c [.sl none 0 0 0, .i .i64 most], .c [.sl none 0 0 0, .i .i64 most]], rfl, ?_⟩
              conv => whnf
              refine ⟨(by show 0 + 12 ≤ 12; omega), ?_⟩
              conv => whnf
              refine ACall.frameH [1] [] rfl (args' := [.p (some (0, 0))]) (Hc := [.c [.sl none 0 0 0, .i .i64 most]]) rfl rfl (rfall_nil most) ?_
              rintro r H ⟨d, rfl, rfl⟩
              refine ⟨.inl rfl, [.c [.sl none 0 0 0, .i .i64 most], .c [.sl none 0 0 0, .i .i64 most], .c z12, .c (frs [])], rfl, ?_⟩
              conv => whnf
              refine ADraw.gh (Gh.regs [12, 11, 10, 8, 7, 5, 4, 1, 0] (Gh.of ?_))
              refine ADraw.to (r' := [(12, .sl (some (3, 0)) 12 0 d), (11, .b false), (10, .p (some (2, 0))), (8, .i .i64 i), (7, .p (some (1, 0))), (5, .p (some (0, 0))), (4, .b false), (1, .rs (acs A) 0 13 A.length), (0, .i .i64 most)]) (H' := [.c [.sl none 0 0 0, .i .i64 most], .c [.sl none 0 0 0, .i .i64 most], .c z12, .c (frs [])]) rfl rfl ?_
              refine ADraw.of tok mixed false [0, 1, 2, 3, 4, 5, 6, 7, 8, 9, 10, 11, 12, 13, 14, 15, 16, 17, 18, 19, 20, 21, 22, 23] [] (by kernel_rfl) (fun _ _ _ _ h => h) ?_
              conv => whnf
              refine ⟨flatFrame, ?_⟩
              conv => whnf
              refine Gh.regs [8, 7, 5, 4, 1, 0] (Gh.sel [0, 1] rfl (Gh.of ⟨A.length - (i + 1), by omega, i + 1, rowL R most A[i], by omega, rfl, hln2, hok2, .inl ⟨hR0, rfl⟩, ?_⟩))
              refine keep_eq (show keepR _ _ = [_, _, _, _, _, _] from rfl) ?_
              simp only [subG, sub, subs_acs]
              rw [w64 (by omega) (by omega)]; rfl
            · have hzX : ∀ φ, subs φ (frs (rowL R most A[i]) ++ X) = frs (rowL R most A[i]) ++ X := (Pl.frs _).app k5
              have hzY : ∀ φ, subs φ (frs (srt (rowL R most A[i])) ++ Y) = frs (srt (rowL R most A[i])) ++ Y := (Pl.frs _).app k2
              rcases list_two (srt (rowL R most A[i])) with hS | ⟨F, t, hS⟩
              · have hpos : (false != decide (((srt (rowL R most A[i])).length : Int) > 0)) = false := by rw [hS]; rfl
                have hfirst := qfirst_none most c Y k2
                have hfirst : ACall Try.prog 26 [.p (some (0, 0))] [.c [.sl (some (1, 0)) 12 (srt (rowL R most A[i])).length c, .i .i64 most], .c (frs (srt (rowL R most A[i])) ++ Y)] fun r H => r = .ret (.tup [zav, .b false]) ∧ H = [.c [.sl (some (1, 0)) 12 (srt (rowL R most A[i])).length c, .i .i64 most], .c (frs (srt (rowL R most A[i])) ++ Y)] := by rw [hS]; exact hfirst
                conv => whnf
                refine ACall.frameH [0, 2] [] rfl (args' := [.p (some (0, 0))]) (Hc := [.c [.sl (some (1, 0)) 12 (srt (rowL R most A[i])).length c, .i .i64 most], .c (frs (srt (rowL R most A[i])) ++ Y)]) rfl (by show [_, Blk.c (subs _ _)] = _; simp only [hzY]; rfl) (hfirst) ?_
                rintro r H ⟨rfl, rfl⟩
                refine ⟨.inl rfl, [.c [.sl (some (2, 0)) 12 (srt (rowL R most A[i])).length c, .i .i64 most], .c [.sl (some (3, 0)) 12 (rowL R most A[i]).length e, .i .i64 most], .c (frs (srt (rowL R most A[i])) ++ Y), .c (frs (rowL R most A[i]) ++ X)], (by show [_, _, Blk.c (subs _ _), _] = _; simp only [hzY]; rfl), ?_⟩
                conv => whnf
                refine ⟨(by show 0 + 12 ≤ 12; omega), ?_⟩
                conv => whnf
                refine ACall.frameH [1, 3] [] rfl (args' := [.p (some (0, 0))]) (Hc := [.c [.sl (some (1, 0)) 12 (rowL R most A[i]).length e, .i .i64 most], .c (frs (rowL R most A[i]) ++ X)]) rfl (by show [_, Blk.c (subs _ _)] = _; simp only [hzX]; rfl) (rfall_spec (rowL R most A[i]) hm2' most e X k5 (by omega)) ?_
                rintro r H ⟨d, hd, rfl, rfl⟩
                refine ⟨.inl rfl, [.c [.sl (some (2, 0)) 12 (srt (rowL R most A[i])).length c, .i .i64 most], .c [.sl (some (3, 0)) 12 (rowL R most A[i]).length e, .i .i64 most], .c (frs (srt (rowL R most A[i])) ++ Y), .c (frs (rowL R most A[i]) ++ X), .c z12, .c (frs (srt (rowL R most A[i])))], (by show [_, _, _, Blk.c (subs _ _), _, Blk.c (subs _ _)] = _; simp only [hzX, subs_frs]; rfl), ?_⟩
                conv => whnf
                refine ADraw.gh (Gh.regs [12, 11, 10, 8, 7, 5, 4, 1, 0] (Gh.of ?_))
                refine ADraw.to (r' := [(12, .sl (some (5, 0)) 12 (srt (rowL R most A[i])).length d), (11, .b false), (10, .p (some (4, 0))), (8, .i .i64 i), (7, .p (some (1, 0))), (5, .p (some (0, 0))), (4, .b false), (1, .rs (acs A) 0 13 A.length), (0, .i .i64 most)]) (H' := [.c [.sl (some (2, 0)) 12 (srt (rowL R most A[i])).length c, .i .i64 most], .c [.sl (some (3, 0)) 12 (rowL R most A[i]).length e, .i .i64 most], .c (frs (srt (rowL R most A[i])) ++ Y), .c (frs (rowL R most A[i]) ++ X), .c z12, .c (frs (srt (rowL R most A[i])))]) rfl rfl ?_
                refine ADraw.of tok mixed false [0, 1, 2, 3, 4, 5, 6, 7, 8, 9, 10, 11, 12, 13, 14, 15, 16, 17, 18, 19, 20, 21, 22, 23] [] (by kernel_rfl) (fun _ _ _ _ h => h) ?_
                conv => whnf
                repeat (refine acond_f hpos ?_; conv => whnf)
                refine ⟨flatFrame, ?_⟩
                conv => whnf
                repeat (refine acond_f hpos ?_; conv => whnf)
                refine Gh.regs [8, 7, 5, 4, 1, 0] (Gh.sel [0, 1, 2, 3] rfl (Gh.of ⟨A.length - (i + 1), by omega, i + 1, rowL R most A[i], by omega, rfl, hln2, hok2, .inr ⟨c, Y, e, X, k1, k2, k3, k4, k5, k6, (by show [_, _, Blk.c (subs _ _), Blk.c (subs _ _)] = _; simp only [hzY, hzX]; rfl)⟩, ?_⟩))
                refine keep_eq (show keepR _ _ = [_, _, _, _, _, _] from rfl) ?_
                simp only [subG, sub, subs_acs]
                rw [w64 (by omega) (by omega)]; rfl
              · have hln0 : 0 < (srt (rowL R most A[i])).length := by rw [hS]; simp
                have hpos : (true != decide (((srt (rowL R most A[i])).length : Int) > 0)) = false := by rw [decide_eq_true (by omega)]; rfl
                have h0 : F = (srt (rowL R most A[i]))[0] := by simp only [hS, List.getElem_cons_zero]
                have heq : (!((F.id == (srt (rowL R most A[i]))[0].id) && ((F.ext == (srt (rowL R most A[i]))[0].ext) && ((F.rtr == (srt (rowL R most A[i]))[0].rtr) && ((F.len == (srt (rowL R most A[i]))[0].len) && ((F.b0 == (srt (rowL R most A[i]))[0].b0) && ((F.b1 == (srt (rowL R most A[i]))[0].b1) && ((F.b2 == (srt (rowL R most A[i]))[0].b2) && ((F.b3 == (srt (rowL R most A[i]))[0].b3) && ((F.b4 == (srt (rowL R most A[i]))[0].b4) && ((F.b5 == (srt (rowL R most A[i]))[0].b5) && ((F.b6 == (srt (rowL R most A[i]))[0].b6) && ((F.b7 == (srt (rowL R most A[i]))[0].b7) && true))))))))))))) = false := by rw [fr_eq, decide_eq_true h0]; rfl
                have hfirst := qfirst_spec F t most c Y k2
                rw [← hS] at hfirst
                conv => whnf
                refine ACall.frameH [0, 2] [] rfl (args' := [.p (some (0, 0))]) (Hc := [.c [.sl (some (1, 0)) 12 (srt (rowL R most A[i])).length c, .i .i64 most], .c (frs (srt (rowL R most A[i])) ++ Y)]) rfl (by show [_, Blk.c (subs _ _)] = _; simp only [hzY]; rfl) (hfirst) ?_
                rintro r H ⟨rfl, rfl⟩
                refine ⟨.inl rfl, [.c [.sl (some (2, 0)) 12 (srt (rowL R most A[i])).length c, .i .i64 most], .c [.sl (some (3, 0)) 12 (rowL R most A[i]).length e, .i .i64 most], .c (frs (srt (rowL R most A[i])) ++ Y), .c (frs (rowL R most A[i]) ++ X)], (by show [_, _, Blk.c (subs _ _), _] = _; simp only [hzY]; rfl), ?_⟩
                conv => whnf
                refine ⟨(by show 0 + 12 ≤ 12; omega), ?_⟩
                conv => whnf
                refine ACall.frameH [1, 3] [] rfl (args' := [.p (some (0, 0))]) (Hc := [.c [.sl (some (1, 0)) 12 (rowL R most A[i]).length e, .i .i64 most], .c (frs (rowL R most A[i]) ++ X)]) rfl (by show [_, Blk.c (subs _ _)] = _; simp only [hzX]; rfl) (rfall_spec (rowL R most A[i]) hm2' most e X k5 (by omega)) ?_
                rintro r H ⟨d, hd, rfl, rfl⟩
                refine ⟨.inl rfl, [.c [.sl (some (2, 0)) 12 (srt (rowL R most A[i])).length c, .i .i64 most], .c [.sl (some (3, 0)) 12 (rowL R most A[i]).length e, .i .i64 most], .c (frs (srt (rowL R most A[i])) ++ Y), .c (frs (rowL R most A[i]) ++ X), .c F.cells, .c (frs (srt (rowL R most A[i])))], (by show [_, _, _, Blk.c (subs _ _), _, Blk.c (subs _ _)] = _; simp only [hzX, subs_frs]; rfl), ?_⟩
                conv => whnf
                refine ADraw.gh (Gh.regs [12, 11, 10, 8, 7, 5, 4, 1, 0] (Gh.of ?_))
                refine ADraw.to (r' := [(12, .sl (some (5, 0)) 12 (srt (rowL R most A[i])).length d), (11, .b true), (10, .p (some (4, 0))), (8, .i .i64 i), (7, .p (some (1, 0))), (5, .p (some (0, 0))), (4, .b false), (1, .rs (acs A) 0 13 A.length), (0, .i .i64 most)]) (H' := [.c [.sl (some (2, 0)) 12 (srt (rowL R most A[i])).length c, .i .i64 most], .c [.sl (some (3, 0)) 12 (rowL R most A[i]).length e, .i .i64 most], .c (frs (srt (rowL R most A[i])) ++ Y), .c (frs (rowL R most A[i]) ++ X), .c F.cells, .c (frs (srt (rowL R most A[i])))]) rfl rfl ?_
                refine ADraw.of tok mixed false [0, 1, 2, 3, 4, 5, 6, 7, 8, 9, 10, 11, 12, 13, 14, 15, 16, 17, 18, 19, 20, 21, 22, 23] [] (by kernel_rfl) (fun _ _ _ _ h => h) ?_
                conv => whnf
                repeat (refine acond_f hpos ?_; conv => whnf)
                refine ⟨⟨by omega, by omega⟩, ?_⟩
                conv => whnf
                refine aget_fr (k := 0) (by omega) hln0 ?_
                conv => whnf
                refine ⟨flatFrame, ?_⟩
                conv => whnf
                repeat (first | (refine acond_f heq ?_; conv => whnf) | (refine acond_f hpos ?_; conv => whnf))
                refine Gh.regs [8, 7, 5, 4, 1, 0] (Gh.sel [0, 1, 2, 3] rfl (Gh.of ⟨A.length - (i + 1), by omega, i + 1, rowL R most A[i], by omega, rfl, hln2, hok2, .inr ⟨c, Y, e, X, k1, k2, k3, k4, k5, k6, (by show [_, _, Blk.c (subs _ _), Blk.c (subs _ _)] = _; simp only [hzY, hzX]; rfl)⟩, ?_⟩))
                refine keep_eq (show keepR _ _ = [_, _, _, _, _, _] from rfl) ?_
                simp only [subG, sub, subs_acs]
                rw [w64 (by omega) (by omega)]; rfl
      · conv => whnf
        refine acond_f (decide_eq_false h1) ?_
        conv => whnf
        refine ACall.frameH [] [] rfl (args' := []) (Hc := []) rfl rfl awake9_spec ?_
        rintro r H ⟨rfl, rfl⟩
        refine ⟨.inl rfl, _, rfl, ?_⟩
        conv => whnf
        exact GhR.sel [] rfl (GhR.of ⟨rfl, rfl⟩)
end Go.AK
