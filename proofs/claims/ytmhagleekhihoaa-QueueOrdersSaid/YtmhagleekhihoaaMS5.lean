/- Texts SQPlaysP, SQOrdP, SQOrd: an evaluator of the model's code, proved sound, and what the program's functions do, for all inputs. -/
import Derived.Test.YtmhagleekhihoaaMS4
namespace Go.AK
open Go Go.RowKit Go.Proofs
set_option linter.unusedVariables false
set_option maxRecDepth 100000
theorem cutK {P : Program} {n0 nt : Nat} {ops : Array Oper} {Q : AX → Regs → Heap → Prop} {G : Prop} (Inv : Regs → Heap → Prop) (h1 : (∀ rr HH, Inv rr HH → ADraw P n0 nt ops rr HH Q) → G) (h2 : ∀ rr HH, Inv rr HH → ADraw P n0 nt ops rr HH Q) : G := h1 h2
theorem list_two {α : Type} (l : List α) : l = [] ∨ ∃ x t, l = x :: t := by
  cases l with
  | nil => exact .inl rfl
  | cons x t => exact .inr ⟨x, t, rfl⟩
/-- The document's row behind an act. -/
def rowL (R : List Fr) (most : Int) (a : Bool × Fr) : List Fr := if a.1 = true then R.erase a.2 else (if putE R a.2 most = 0 then R ++ [a.2] else R)
theorem putE_len {R S : List Fr} {F : Fr} {most : Int} (h : R.length = S.length) : putE R F most = putE S F most := by unfold putE; rw [h]
theorem act_row (R : List Fr) (hm : ∀ K ∈ R, K.may) (most : Int) (a : Bool × Fr) : actL (srt R) most a = srt (rowL R most a) ∧ actE (srt R) most a = actE R most a := by
  have hpe : putE (srt R) a.2 most = putE R a.2 most := putE_len (srt_length R)
  unfold actL actE rowL
  rw [hpe]
  split
  · constructor
    · split
      · rw [drop_erase, srt_erase R hm]
      · rename_i h
        rw [List.erase_of_not_mem (fun h2 => h (srt_mem.2 h2))]
    · by_cases h : a.2 ∈ R
      · rw [if_pos (srt_mem.2 h), if_pos h]
      · rw [if_neg (fun h2 => h (srt_mem.1 h2)), if_neg h]
  · refine ⟨?_, rfl⟩
    split
    · rw [srt_snoc]
    · rfl
theorem rowL_ok {R : List Fr} {most : Int} {a : Bool × Fr} (h : ∀ K ∈ R, K.may ∧ K.ok) (ha : a.2.ok) : ∀ K ∈ rowL R most a, K.may ∧ K.ok := fun K hK => by
  unfold rowL at hK
  split at hK
  · exact h K (List.mem_of_mem_erase hK)
  · split at hK
    · rename_i he
      rcases List.mem_append.1 hK with h2 | h2
      · exact h K h2
      · rw [List.mem_singleton.1 h2]
        refine ⟨?_, ha⟩
        unfold putE at he
        split at he
        · assumption
        · omega
    · exact h K hK
theorem rowL_len {R : List Fr} {most : Int} {a : Bool × Fr} (h : (R.length : Int) ≤ most) : ((rowL R most a).length : Int) ≤ most := by
  unfold rowL
  split
  · have : (R.erase a.2).length ≤ R.length := List.length_erase_le
    omega
  · split
    · rename_i he
      unfold putE at he
      split at he
      · split at he
        · omega
        · rw [List.length_append, List.length_singleton]; omega
      · omega
    · exact h
theorem aget_actF {L : List (Bool × Fr)} {k o : Nat} (ho : o = k * 13 + 1) (hk : k < L.length) {K : AV → AV → AV → AV → AV → AV → AV → AV → AV → AV → AV → AV → Prop} (h : K (.i .i64 L[k].2.id) (.b L[k].2.ext) (.b L[k].2.rtr) (.i .i64 L[k].2.len) (.i .u8 L[k].2.b0) (.i .u8 L[k].2.b1) (.i .u8 L[k].2.b2) (.i .u8 L[k].2.b3) (.i .u8 L[k].2.b4) (.i .u8 L[k].2.b5) (.i .u8 L[k].2.b6) (.i .u8 L[k].2.b7)) :
    aget (acs L) o fun v0 => aget (acs L) (o + 1) fun v1 => aget (acs L) ((o + 1) + 1) fun v2 => aget (acs L) (((o + 1) + 1) + 1) fun v3 => aget (acs L) ((((o + 1) + 1) + 1) + 1) fun v4 => aget (acs L) (((((o + 1) + 1) + 1) + 1) + 1) fun v5 => aget (acs L) ((((((o + 1) + 1) + 1) + 1) + 1) + 1) fun v6 => aget (acs L) (((((((o + 1) + 1) + 1) + 1) + 1) + 1) + 1) fun v7 => aget (acs L) ((((((((o + 1) + 1) + 1) + 1) + 1) + 1) + 1) + 1) fun v8 => aget (acs L) (((((((((o + 1) + 1) + 1) + 1) + 1) + 1) + 1) + 1) + 1) fun v9 => aget (acs L) ((((((((((o + 1) + 1) + 1) + 1) + 1) + 1) + 1) + 1) + 1) + 1) fun v10 => aget (acs L) (((((((((((o + 1) + 1) + 1) + 1) + 1) + 1) + 1) + 1) + 1) + 1) + 1) fun v11 => K v0 v1 v2 v3 v4 v5 v6 v7 v8 v9 v10 v11 := by
  subst ho
  have g : ∀ j (v : AV), j < 12 → L[k].2.cells[j]? = some v → (acs L)[k * 13 + 1 + j]? = some v := fun j v hj h => by rw [Nat.add_assoc, acs_get hk (by omega), Nat.add_comm 1 j]; exact h
  unfold aget
  rw [show (acs L)[k * 13 + 1]? = some (.i .i64 L[k].2.id) from g 0 _ (by omega) rfl]
  dsimp only
  rw [show (acs L)[(k * 13 + 1 + 1)]? = some (.b L[k].2.ext) from g 1 _ (by omega) rfl]
  dsimp only
  rw [show (acs L)[((k * 13 + 1 + 1) + 1)]? = some (.b L[k].2.rtr) from g 2 _ (by omega) rfl]
  dsimp only
  rw [show (acs L)[(((k * 13 + 1 + 1) + 1) + 1)]? = some (.i .i64 L[k].2.len) from g 3 _ (by omega) rfl]
  dsimp only
  rw [show (acs L)[((((k * 13 + 1 + 1) + 1) + 1) + 1)]? = some (.i .u8 L[k].2.b0) from g 4 _ (by omega) rfl]
  dsimp only
  rw [show (acs L)[(((((k * 13 + 1 + 1) + 1) + 1) + 1) + 1)]? = some (.i .u8 L[k].2.b1) from g 5 _ (by omega) rfl]
  dsimp only
  rw [show (acs L)[((((((k * 13 + 1 + 1) + 1) + 1) + 1) + 1) + 1)]? = some (.i .u8 L[k].2.b2) from g 6 _ (by omega) rfl]
  dsimp only
  rw [show (acs L)[(((((((k * 13 + 1 + 1) + 1) + 1) + 1) + 1) + 1) + 1)]? = some (.i .u8 L[k].2.b3) from g 7 _ (by omega) rfl]
  dsimp only
  rw [show (acs L)[((((((((k * 13 + 1 + 1) + 1) + 1) + 1) + 1) + 1) + 1) + 1)]? = some (.i .u8 L[k].2.b4) from g 8 _ (by omega) rfl]
  dsimp only
  rw [show (acs L)[(((((((((k * 13 + 1 + 1) + 1) + 1) + 1) + 1) + 1) + 1) + 1) + 1)]? = some (.i .u8 L[k].2.b5) from g 9 _ (by omega) rfl]
  dsimp only
  rw [show (acs L)[((((((((((k * 13 + 1 + 1) + 1) + 1) + 1) + 1) + 1) + 1) + 1) + 1) + 1)]? = some (.i .u8 L[k].2.b6) from g 10 _ (by omega) rfl]
  dsimp only
  rw [show (acs L)[(((((((((((k * 13 + 1 + 1) + 1) + 1) + 1) + 1) + 1) + 1) + 1) + 1) + 1) + 1)]? = some (.i .u8 L[k].2.b7) from g 11 _ (by omega) rfl]
  exact h
theorem does_nil2 (a : Bool × Fr) (ha : a.2.ok) (most : Int) (hmost : 1 ≤ most) :
    ACall Try.prog 16 [.p (some (0, 0)), actAV a] [.c [.sl none 0 0 0, .i .i64 most]] fun r H => r = .ret (.i .i64 (actE [] most a)) ∧ ((actL [] most a = [] ∧ QNil most H) ∨ (actL [] most a ≠ [] ∧ QIn (actL [] most a) most H)) := by
  obtain ⟨d, F⟩ := a
  refine ACall.gh ?_
  refine ACall.enter tok false Try.func16 rfl rfl rfl (AW_sound (ip := false) tok _ _ _ _ ?_)
  cases d
  · conv => whnf
    refine ACall.frame [0] [] rfl (args' := [.p (some (0, 0)), F.av]) (Hc := [.c [.sl none 0 0 0, .i .i64 most]]) rfl rfl (qput_nil F ha most hmost) ?_
    rintro r H ⟨rfl, ⟨h0, d, Z, k1, k2, k3, rfl⟩ | ⟨h0, rfl⟩⟩
    · have hE : actE [] most (false, F) = F.chk := by
        unfold actE putE; rw [if_neg (by simp), if_pos h0, if_neg (by simp; omega), Fr.good h0]
      have hL : actL [] most (false, F) = [F] := by
        have hpe : putE [] F most = 0 := by unfold putE; rw [if_pos h0, if_neg (by simp; omega)]
        unfold actL; rw [if_neg (by simp), if_pos hpe]; rfl
      refine ⟨.inl rfl, ?_⟩
      conv => whnf
      have hz : Pl (frs [F] ++ Z) := (Pl.frs _).app k2
      refine GhR.sel [0, 2] rfl (GhR.of ⟨by rw [hE]; rfl, .inr ⟨by rw [hL]; simp, d, Z, by rw [hL]; exact k1, k2, by rw [hL]; exact k3, ?_⟩⟩)
      rw [hL]
      show [_, Blk.c (subs _ (subs _ (frs [F] ++ Z)))] = _
      rw [hz, hz]
      rfl
    · have hE : actE [] most (false, F) = F.chk := by
        unfold actE putE; rw [if_neg (by simp), if_neg h0, Fr.bad h0]
      have hL : actL [] most (false, F) = [] := by
        unfold actL putE; rw [if_neg (by simp), if_neg h0, if_neg (by decide)]
      refine ⟨.inl rfl, ?_⟩
      conv => whnf
      exact GhR.sel [0] rfl (GhR.of ⟨by rw [hE]; rfl, .inl ⟨hL, rfl⟩⟩)
  · conv => whnf
    refine ACall.frame [0] [] rfl (args' := [.p (some (0, 0)), F.av]) (Hc := [.c [.sl none 0 0 0, .i .i64 most]]) rfl rfl (qdrop_nil F most) ?_
    rintro r H ⟨rfl, rfl⟩
    refine ⟨.inl rfl, ?_⟩
    conv => whnf
    exact GhR.sel [0] rfl (GhR.of ⟨rfl, .inl ⟨rfl, rfl⟩⟩)
end Go.AK
namespace Go.AK
open Go Go.RowKit Go.Proofs
set_option linter.unusedVariables false
set_option maxRecDepth 100000
/-! The frames that come in. -/
def inF (l : List Fr) (F : Fr) : List Fr := if F.may ∧ l.length < 16 then l ++ [F] else l
def inN (L : List Fr) (k : Nat) : List Fr := (L.take k).foldl inF []
theorem inN_next {L : List Fr} {k : Nat} (h : k < L.length) : inN L (k + 1) = inF (inN L k) L[k] := by
  unfold inN
  rw [List.take_succ_eq_append_getElem h, List.foldl_append]
  rfl
theorem inF_may {l : List Fr} {F : Fr} (h : ∀ K ∈ l, K.may ∧ K.ok) (hF : F.ok) : ∀ K ∈ inF l F, K.may ∧ K.ok := fun K hK => by
  unfold inF at hK
  split at hK
  · rename_i hc
    rcases List.mem_append.1 hK with h2 | h2
    · exact h K h2
    · rw [List.mem_singleton.1 h2]; exact ⟨hc.1, hF⟩
  · exact h K hK
theorem inF_len {l : List Fr} {F : Fr} (h : l.length ≤ 16) : (inF l F).length ≤ 16 := by
  unfold inF
  split
  · rename_i hc; rw [List.length_append, List.length_singleton]; omega
  · exact h
theorem rival_eq2 {F G : Fr} (hF : F.may) (hG : G.may) : F.rival G = decide (F.row = G.row) := by
  by_cases e : F.row = G.row
  · rw [(rival_rows hF hG).2 e, decide_eq_true e]
  · rw [decide_eq_false e]
    cases h2 : F.rival G
    · rfl
    · exact absurd ((rival_rows hF hG).1 h2) e
theorem less_not_rival {F K G : Fr} (hF : F.may) (hK : K.may) (hG : G.may) (h : F.less K = true) (hr : F.rival G = true) : K.rival G = false := by
  rw [rival_eq2 hF hG, decide_eq_true_eq] at hr
  rw [rival_eq2 hK hG]
  refine decide_eq_false fun e => ?_
  rw [less_row hF hK, decide_eq_true_eq, hr, e] at h
  have h2 := cmpL_flip G.row G.row
  omega
theorem fil_pos {p : Fr → Bool} {X : Fr} {l : List Fr} (h : p X = true) : (X :: l).filter p = X :: l.filter p := List.filter_cons_of_pos h
theorem fil_neg {p : Fr → Bool} {X : Fr} {l : List Fr} (h : ¬ p X = true) : (X :: l).filter p = l.filter p := List.filter_cons_of_neg h
theorem filter_put {F G : Fr} (hF : F.may) (hG : G.may) : ∀ {l : List Fr}, (∀ K ∈ l, K.may) → Srt l → (putL l F).filter (fun K => K.rival G) = l.filter (fun K => K.rival G) ++ if F.rival G = true then [F] else []
  | [], _, _ => by
    rw [putL_nil]
    by_cases h : F.rival G = true
    · rw [if_pos h, fil_pos (p := fun K => K.rival G) h]; rfl
    · rw [if_neg h, fil_neg (p := fun K => K.rival G) h]; rfl
  | X :: l, hm, hs => by
    have hX := hm X List.mem_cons_self
    have hs2 := List.pairwise_cons.1 hs
    by_cases hl : F.less X = true
    · rw [putL_cons_lt hl]
      by_cases h : F.rival G = true
      · have hnone : (X :: l).filter (fun K => K.rival G) = [] := by
          refine List.filter_eq_nil_iff.2 fun K hK => ?_
          have hKm := hm K hK
          have hlt : F.less K = true := by
            rcases List.mem_cons.1 hK with rfl | h2
            · exact hl
            · exact less_le hF hX hKm hl (hs2.1 K h2)
          rw [less_not_rival hF hKm hG hlt h]; decide
        rw [if_pos h, fil_pos (p := fun K => K.rival G) h, hnone]; rfl
      · rw [if_neg h, fil_neg (p := fun K => K.rival G) h, List.append_nil]
    · have hl' : F.less X = false := Bool.eq_false_iff.2 hl
      rw [putL_cons_ge hl']
      have ih := filter_put hF hG (l := l) (fun K hK => hm K (List.mem_cons_of_mem _ hK)) hs2.2
      by_cases h : X.rival G = true
      · rw [fil_pos (p := fun K => K.rival G) h, fil_pos (p := fun K => K.rival G) h, ih]; rfl
      · rw [fil_neg (p := fun K => K.rival G) h, fil_neg (p := fun K => K.rival G) h, ih]
theorem filter_srt {G : Fr} (hG : G.may) : ∀ (n : Nat) (R : List Fr), R.length = n → (∀ K ∈ R, K.may) → (srt R).filter (fun K => K.rival G) = R.filter (fun K => K.rival G)
  | 0, R, hn, _ => by rw [List.eq_nil_of_length_eq_zero hn]; rfl
  | n + 1, R, hn, hm => by
    have hne : R ≠ [] := fun e => by rw [e] at hn; cases hn
    obtain ⟨R', F, rfl⟩ : ∃ R' F, R = R' ++ [F] := ⟨R.dropLast, R.getLast hne, (List.dropLast_concat_getLast hne).symm⟩
    have hm' : ∀ K ∈ R', K.may := fun K hK => hm K (List.mem_append_left _ hK)
    have hF : F.may := hm F (List.mem_append_right _ List.mem_cons_self)
    rw [srt_snoc, filter_put hF hG (fun K hK => hm' K (srt_mem.1 hK)) (srt_srt _), filter_srt hG n R' (by simp at hn; omega) hm', List.filter_append]
    congr 1
    by_cases h : F.rival G = true
    · rw [if_pos h, fil_pos (p := fun K => K.rival G) h]; rfl
    · rw [if_neg h, fil_neg (p := fun K => K.rival G) h]; rfl
theorem srt_rows {l m : List Fr} (hl : Srt l) (hm : Srt m) (hp : l.Perm m) (hml : ∀ K ∈ l, K.may) : l.map Fr.row = m.map Fr.row := by
  have hmm : ∀ K ∈ m, K.may := fun K h => hml K (hp.mem_iff.2 h)
  have key : ∀ {l : List Fr}, Srt l → (∀ K ∈ l, K.may) → (l.map Fr.row).Pairwise (fun a b => ¬ cmpL b a < 0) := fun {l} h hm => by
    rw [List.pairwise_map]
    refine List.Pairwise.imp_of_mem ?_ h
    intro a b ha hb hab
    rw [less_row (hm b hb) (hm a ha)] at hab
    exact of_decide_eq_false hab
  refine List.Perm.eq_of_pairwise (le := fun a b => ¬ cmpL b a < 0) (fun a b _ _ h1 h2 => ?_) (key hl hml) (key hm hmm) (hp.map _)
  have := cmpL_flip a b
  exact cmpL_zero' (by omega)
theorem srt_rival {R S : List Fr} (hm : ∀ K ∈ R, K.may) (hp : S.Perm R) {i : Nat} (hi : i < (srt R).length) (hj : i < (srt S).length) : ((srt R)[i]).rival ((srt S)[i]) = true := by
  have hmS : ∀ K ∈ S, K.may := fun K h => hm K (hp.mem_iff.1 h)
  have h := srt_rows (srt_srt R) (srt_srt S) ((srt_perm R).trans (hp.symm.trans (srt_perm S).symm)) (fun K h => hm K (srt_mem.1 h))
  have hR := hm _ (srt_mem.1 (List.getElem_mem hi))
  have hS := hmS _ (srt_mem.1 (List.getElem_mem hj))
  refine (rival_rows hR hS).2 ?_
  have h2 : ((srt R).map Fr.row)[i]? = ((srt S).map Fr.row)[i]? := by rw [h]
  rw [List.getElem?_map, List.getElem?_map, List.getElem?_eq_getElem hi, List.getElem?_eq_getElem hj] at h2
  simpa using h2
/-! Turned by some places. -/
def rotL (R : List Fr) (s : Nat) : List Fr := R.drop s ++ R.take s
theorem rotL_perm (R : List Fr) (s : Nat) : (rotL R s).Perm R := by
  unfold rotL
  exact List.perm_append_comm.trans (by rw [List.take_append_drop])
theorem rotL_length (R : List Fr) (s : Nat) : (rotL R s).length = R.length := (rotL_perm R s).length_eq
theorem rotL_get {R : List Fr} {s i : Nat} (hs : s < R.length) (hi : i < R.length) (h2 : i < (rotL R s).length) : (rotL R s)[i] = R[(i + s) % R.length]'(Nat.mod_lt _ (by omega)) := by
  have h3 : (rotL R s)[i]? = R[(i + s) % R.length]? := by
    show (R.drop s ++ R.take s)[i]? = _
    by_cases e : i < R.length - s
    · rw [List.getElem?_append_left (by rw [List.length_drop]; exact e), List.getElem?_drop, Nat.mod_eq_of_lt (by omega), Nat.add_comm]
    · rw [List.getElem?_append_right (by rw [List.length_drop]; omega), List.length_drop, List.getElem?_take_of_lt (by omega), Nat.mod_eq_sub_mod (by omega), Nat.mod_eq_of_lt (by omega)]
      congr 1; omega
  rw [List.getElem?_eq_getElem h2, List.getElem?_eq_getElem (Nat.mod_lt _ (by omega))] at h3
  exact Option.some.inj h3
theorem srt_take_next {R : List Fr} {i : Nat} (h : i < R.length) : srt (R.take (i + 1)) = putL (srt (R.take i)) R[i] := by
  rw [List.take_succ_eq_append_getElem h, srt_snoc]
theorem filter_take_next {R : List Fr} {p : Fr → Bool} {i : Nat} (h : i < R.length) : (R.take (i + 1)).filter p = (R.take i).filter p ++ if p R[i] = true then [R[i]] else [] := by
  rw [List.take_succ_eq_append_getElem h, List.filter_append]
  congr 1
  by_cases e : p R[i] = true
  · rw [if_pos e, List.filter_cons_of_pos e]; rfl
  · rw [if_neg e, List.filter_cons_of_neg e]; rfl
theorem rem_in {b : Int} {n : Nat} (hn : 0 < n) (hn2 : n ≤ 16) (hb : -9223372036854775808 ≤ b ∧ b ≤ 9223372036854775807) : ∃ s : Nat, s < n ∧ (IntKind.i64.wrap (b.tmod n + n)).tmod n = s := by
  have h1 : b.tmod n < n := Int.tmod_lt_of_pos b (by omega)
  have h2 : -(n : Int) < b.tmod n := Int.lt_tmod_of_pos b (by omega)
  rw [w64 (by omega) (by omega)]
  refine ⟨((b.tmod n + n).tmod n).toNat, ?_, ?_⟩
  · have h3 : (b.tmod n + n).tmod n < n := Int.tmod_lt_of_pos _ (by omega)
    omega
  · have h4 : 0 ≤ (b.tmod n + n).tmod n := Int.tmod_nonneg _ (by omega)
    omega
end Go.AK
namespace Go.AK
open Go Go.RowKit Go.Proofs
set_option linter.unusedVariables false
set_option maxRecDepth 100000
theorem qput_no (l : List Fr) (F : Fr) (E : Int) (hok : ∀ F ∈ l, F.ok) (hF : F.ok) (most : Int) (c : Nat) (Y : List AV) (hc : l.length ≤ c) (hY : Pl Y) (hYl : Y.length = (c - l.length) * 12) (he : putE l F most = E) (hE : E ≠ 0) (hl : l.length < 1000000) :
    ACall Try.prog 21 [.p (some (0, 0)), F.av] [.c [.sl (some (1, 0)) 12 l.length c, .i .i64 most], .c (frs l ++ Y)] fun r H => r = .ret (.i .i64 E) ∧ QIn l most H := by
  refine ACall.mono (qput_spec l hok F hF most c Y hc hY hYl hl) ?_
  rw [he]
  rintro r H ⟨rfl, ⟨h, _⟩ | ⟨_, h⟩⟩
  · exact absurd h hE
  · exact ⟨rfl, h⟩
set_option maxHeartbeats 20000000 in
theorem lawOrd (L : List Fr) (hL : ∀ F ∈ L, F.ok) (by_ : Int) (hby : -9223372036854775808 ≤ by_ ∧ by_ ≤ 9223372036854775807) : ACall Try.prog 6 [.rs (frs L) 0 12 L.length, .i .i64 by_] [] fun r H => r = .ret (.b true) ∧ H = [] := by
  refine ACall.gh ?_
  refine ACall.enter tok false Try.func6 rfl rfl rfl (AW_sound (ip := false) tok _ _ _ _ ?_)
  conv => whnf
  by_cases g1 : (L.length : Int) > 40
  · repeat (refine acond_t (decide_eq_true g1) ?_; conv => whnf)
    refine ACall.frameH [] [] rfl (args' := []) (Hc := []) rfl rfl awake9_spec ?_
    rintro r H ⟨rfl, rfl⟩
    refine ⟨.inl rfl, _, rfl, ?_⟩
    conv => whnf
    exact GhR.sel [] rfl (GhR.of ⟨rfl, rfl⟩)
  · repeat (refine acond_f (decide_eq_false g1) ?_; conv => whnf)
    refine ACall.frameH [] [] rfl (args' := [.i .i64 16]) (Hc := []) rfl rfl (qnew_spec 16) ?_
    rintro r H (⟨h, _⟩ | ⟨_, _, rfl, rfl⟩)
    · exact absurd h (by omega)
    refine ⟨.inl rfl, [.c [.sl none 0 0 0, .i .i64 16]], rfl, ?_⟩
    conv => whnf
    refine ACall.frameH [] [] rfl (args' := [.i .i64 16]) (Hc := []) rfl rfl (qnew_spec 16) ?_
    rintro r H (⟨h, _⟩ | ⟨_, _, rfl, rfl⟩)
    · exact absurd h (by omega)
    refine ⟨.inl rfl, [.c [.sl none 0 0 0, .i .i64 16], .c [.sl none 0 0 0, .i .i64 16]], rfl, ?_⟩
    conv => whnf
    have hzf : ∀ φ L, subs φ (frs L) = frs L := fun φ L => subs_frs φ L
    refine ALoop.ind (ip := false) tok (fun m r H => ∃ (i : Nat) (R : List Fr) (e : Nat), i ≤ L.length ∧ m = L.length - i ∧ R.length ≤ 16 ∧ (∀ F ∈ R, F.may ∧ F.ok) ∧ R.length ≤ e ∧
      ((R = [] ∧ H = [.c [.sl none 0 0 0, .i .i64 16], .c [.sl none 0 0 0, .i .i64 16], .c (frs [])]) ∨ ∃ cq Yq, R ≠ [] ∧ (srt R).length ≤ cq ∧ Pl Yq ∧ Yq.length = (cq - (srt R).length) * 12 ∧ H = [.c [.sl (some (3, 0)) 12 (srt R).length cq, .i .i64 16], .c [.sl none 0 0 0, .i .i64 16], .c (frs R), .c (frs (srt R) ++ Yq)]) ∧
      r = [(10, .i .i64 i), (9, .sl (some (2, 0)) 12 R.length e), (7, .p (some (1, 0))), (5, .p (some (0, 0))), (4, .b false), (1, .i .i64 by_), (0, .rs (frs L) 0 12 L.length)]) L.length ?_ ?_
    · exact Gh.regs [10, 9, 7, 5, 4, 1, 0] (Gh.of ⟨0, [], 0, by omega, by omega, by simp, (fun F h => by cases h), by simp, .inl ⟨rfl, rfl⟩, rfl⟩)
    · rintro m r H ⟨i, R, e, hi, rfl, hl16, hmo, he, hst, rfl⟩
      have hm : ∀ K ∈ R, K.may := fun K h => (hmo K h).1
      have hoks : ∀ K ∈ srt R, K.ok := fun K h => (hmo K (srt_mem.1 h)).2
      have hsl : (srt R).length = R.length := srt_length R
      have hfR := frs_length R
      by_cases h1 : (i : Int) < L.length
      · have hil : i < L.length := by omega
        have ha := hL _ (List.getElem_mem hil)
        have hchk := check_spec L[i] ha
        have hin := inF_may (F := L[i]) hmo ha
        have hlen := inF_len (F := L[i]) hl16
        by_cases hmay : L[i].may
        · rw [Fr.good hmay] at hchk
          rcases hst with ⟨rfl, rfl⟩ | ⟨cq, Yq, hne, kq1, kq2, kq3, rfl⟩
          · have hie : inF [] L[i] = [L[i]] := by unfold inF; rw [if_pos ⟨hmay, by simp⟩]; rfl
            rw [hie] at hin hlen
            conv => whnf
            refine acond_t (decide_eq_true h1) ?_
            conv => whnf
            refine ⟨⟨by omega, h1⟩, ?_⟩
            conv => whnf
            refine aget_fr (k := i) (by omega) hil ?_
            conv => whnf
            refine ACall.frameH [0] [] rfl (args' := [.p (some (0, 0)), L[i].av]) (Hc := [.c [.sl none 0 0 0, .i .i64 16]]) rfl rfl (qput_nil L[i] ha 16 (by omega)) ?_
            rintro r H ⟨rfl, hh⟩
            obtain ⟨_, cq, Yq, kq1, kq2, kq3, rfl⟩ := hh.resolve_right (fun h0 => h0.1 hmay)
            rw [Fr.good hmay]
            have hzq : ∀ φ, subs φ (frs [L[i]] ++ Yq) = frs [L[i]] ++ Yq := (Pl.frs _).app kq2
            refine ⟨.inl rfl, [.c [.sl (some (3, 0)) 12 [L[i]].length cq, .i .i64 16], .c [.sl none 0 0 0, .i .i64 16], .c (frs []), .c (frs [L[i]] ++ Yq)], (by show [_, _, _, Blk.c (subs _ _)] = _; simp only [hzq]; rfl), ?_⟩
            conv => whnf
            refine ⟨⟨by omega, h1⟩, ?_⟩
            conv => whnf
            refine aget_fr (k := i) (by omega) hil ?_
            conv => whnf
            refine ACall.frameH [] [] rfl (args' := [L[i].av]) (Hc := []) rfl rfl hchk ?_
            rintro r H ⟨rfl, rfl⟩
            refine ⟨.inl rfl, [.c [.sl (some (3, 0)) 12 [L[i]].length cq, .i .i64 16], .c [.sl none 0 0 0, .i .i64 16], .c (frs []), .c (frs [L[i]] ++ Yq)], rfl, ?_⟩
            conv => whnf
            refine ⟨⟨by omega, h1⟩, ?_⟩
            conv => whnf
            refine aget_fr (k := i) (by omega) hil ?_
            conv => whnf
            refine ⟨by dsimp only; omega, ?_⟩
            conv => whnf
            refine ⟨by show 12 ≤ (12 : Nat); omega, ?_⟩
            conv => whnf
            refine ⟨rfl, by (try dsimp only); omega, by omega, fun g2 hg2 => ?_⟩
            conv => whnf
            refine Gh.regs [10, 9, 7, 5, 4, 1, 0] (Gh.sel [0, 1, 5, 3] rfl (Gh.of ⟨L.length - (i + 1), by omega, i + 1, [L[i]], g2, by omega, rfl, hlen, hin, hg2, .inr ⟨cq, Yq, by simp, kq1, kq2, kq3, ?_⟩, ?_⟩))
            · show [_, _, _, Blk.c (subs _ _)] = _
              simp only [hzq]
              rfl
            · refine keep_eq (show keepR _ _ = [_, _, _, _, _, _, _] from rfl) ?_
              simp only [subG, sub, subs_frs]
              rw [w64 (by omega) (by omega)]; rfl
          · have hzq0 : ∀ φ, subs φ (frs (srt R) ++ Yq) = frs (srt R) ++ Yq := (Pl.frs _).app kq2
            by_cases hroom : R.length < 16
            · have hie : inF R L[i] = R ++ [L[i]] := by unfold inF; rw [if_pos ⟨hmay, hroom⟩]
              have hpe : putE (srt R) L[i] 16 = 0 := by unfold putE; rw [if_pos hmay, if_neg (by omega)]
              have hbr : (true != decide ((R.length : Int) < 16)) = false := by rw [decide_eq_true (by omega)]; rfl
              rw [hie] at hin hlen
              have hss : srt (R ++ [L[i]]) = putL (srt R) L[i] := srt_snoc R L[i]
              conv => whnf
              refine acond_t (decide_eq_true h1) ?_
              conv => whnf
              refine ⟨⟨by omega, h1⟩, ?_⟩
              conv => whnf
              refine aget_fr (k := i) (by omega) hil ?_
              conv => whnf
              refine ACall.frameH [0, 3] [] rfl (args' := [.p (some (0, 0)), L[i].av]) (Hc := [.c [.sl (some (1, 0)) 12 (srt R).length cq, .i .i64 16], .c (frs (srt R) ++ Yq)]) rfl (by show [_, Blk.c (subs _ _)] = _; simp only [hzq0]; rfl) (qput_ok (srt R) L[i] (srt (R ++ [L[i]])) hoks ha 16 cq Yq kq1 kq2 kq3 hpe hss.symm (by omega)) ?_
              clear hzq0 kq1 kq2 kq3
              rintro r H ⟨rfl, ⟨cq, Yq, kq1, kq2, kq3, rfl⟩ | ⟨cq, Yq, kq1, kq2, kq3, rfl⟩⟩
              · have hzq : ∀ φ, subs φ (frs (srt (R ++ [L[i]])) ++ Yq) = frs (srt (R ++ [L[i]])) ++ Yq := (Pl.frs _).app kq2
                refine ⟨.inl rfl, [.c [.sl (some (3, 0)) 12 (srt (R ++ [L[i]])).length cq, .i .i64 16], .c [.sl none 0 0 0, .i .i64 16], .c (frs R), .c (frs (srt (R ++ [L[i]])) ++ Yq)], (by show [_, _, _, Blk.c (subs _ _)] = _; simp only [hzq]; rfl), ?_⟩
                conv => whnf
                refine ⟨⟨by omega, h1⟩, ?_⟩
                conv => whnf
                refine aget_fr (k := i) (by omega) hil ?_
                conv => whnf
                refine ACall.frameH [] [] rfl (args' := [L[i].av]) (Hc := []) rfl rfl hchk ?_
                rintro r H ⟨rfl, rfl⟩
                refine ⟨.inl rfl, [.c [.sl (some (3, 0)) 12 (srt (R ++ [L[i]])).length cq, .i .i64 16], .c [.sl none 0 0 0, .i .i64 16], .c (frs R), .c (frs (srt (R ++ [L[i]])) ++ Yq)], rfl, ?_⟩
                conv => whnf
                repeat (refine acond_f hbr ?_; conv => whnf)
                refine ⟨⟨by omega, h1⟩, ?_⟩
                conv => whnf
                refine aget_fr (k := i) (by omega) hil ?_
                conv => whnf
                refine ⟨by dsimp only; omega, ?_⟩
                conv => whnf
                refine ⟨by show 12 ≤ (12 : Nat); omega, ?_⟩
                conv => whnf
                refine ⟨rfl, by (try dsimp only); omega, by omega, fun g2 hg2 => ?_⟩
                conv => whnf
                refine Gh.regs [10, 9, 7, 5, 4, 1, 0] (Gh.sel [0, 1, 5, 3] rfl (Gh.of ⟨L.length - (i + 1), by omega, i + 1, R ++ [L[i]], g2, by omega, rfl, hlen, hin, (by rw [List.length_append]; exact hg2), .inr ⟨cq, Yq, by simp, kq1, kq2, kq3, ?_⟩, ?_⟩))
                · have hAq : List.take (R.length * 12) (List.drop 0 (frs R)) ++ L[i].cells = frs (R ++ [L[i]]) := by
                    rw [List.drop_zero, List.take_of_length_le (by rw [frs_length]; omega), ← frs_one, ← frs_append]
                  show [_, _, Blk.c (subs _ (List.take (R.length * 12) (List.drop 0 (frs R)) ++ L[i].cells)), Blk.c (subs _ _)] = _
                  rw [hAq]
                  simp only [hzq, subs_frs]
                  rfl
                · refine keep_eq (show keepR _ _ = [_, _, _, _, _, _, _] from rfl) ?_
                  simp only [subG, sub, subs_frs, List.length_append, List.length_singleton]
                  rw [w64 (by omega) (by omega)]; rfl
              · have hzq : ∀ φ, subs φ (frs (srt (R ++ [L[i]])) ++ Yq) = frs (srt (R ++ [L[i]])) ++ Yq := (Pl.frs _).app kq2
                refine ⟨.inl rfl, [.c [.sl (some (4, 0)) 12 (srt (R ++ [L[i]])).length cq, .i .i64 16], .c [.sl none 0 0 0, .i .i64 16], .c (frs R), .dead, .c (frs (srt (R ++ [L[i]])) ++ Yq)], (by show [_, _, _, _, Blk.c (subs _ _)] = _; simp only [hzq]; rfl), ?_⟩
                conv => whnf
                refine ⟨⟨by omega, h1⟩, ?_⟩
                conv => whnf
                refine aget_fr (k := i) (by omega) hil ?_
                conv => whnf
                refine ACall.frameH [] [] rfl (args' := [L[i].av]) (Hc := []) rfl rfl hchk ?_
                rintro r H ⟨rfl, rfl⟩
                refine ⟨.inl rfl, [.c [.sl (some (4, 0)) 12 (srt (R ++ [L[i]])).length cq, .i .i64 16], .c [.sl none 0 0 0, .i .i64 16], .c (frs R), .dead, .c (frs (srt (R ++ [L[i]])) ++ Yq)], rfl, ?_⟩
                conv => whnf
                repeat (refine acond_f hbr ?_; conv => whnf)
                refine ⟨⟨by omega, h1⟩, ?_⟩
                conv => whnf
                refine aget_fr (k := i) (by omega) hil ?_
                conv => whnf
                refine ⟨by dsimp only; omega, ?_⟩
                conv => whnf
                refine ⟨by show 12 ≤ (12 : Nat); omega, ?_⟩
                conv => whnf
                refine ⟨rfl, by (try dsimp only); omega, by omega, fun g2 hg2 => ?_⟩
                conv => whnf
                refine Gh.regs [10, 9, 7, 5, 4, 1, 0] (Gh.sel [0, 1, 6, 4] rfl (Gh.of ⟨L.length - (i + 1), by omega, i + 1, R ++ [L[i]], g2, by omega, rfl, hlen, hin, (by rw [List.length_append]; exact hg2), .inr ⟨cq, Yq, by simp, kq1, kq2, kq3, ?_⟩, ?_⟩))
                · have hAq : List.take (R.length * 12) (List.drop 0 (frs R)) ++ L[i].cells = frs (R ++ [L[i]]) := by
                    rw [List.drop_zero, List.take_of_length_le (by rw [frs_length]; omega), ← frs_one, ← frs_append]
                  show [_, _, Blk.c (subs _ (List.take (R.length * 12) (List.drop 0 (frs R)) ++ L[i].cells)), Blk.c (subs _ _)] = _
                  rw [hAq]
                  simp only [hzq, subs_frs]
                  rfl
                · refine keep_eq (show keepR _ _ = [_, _, _, _, _, _, _] from rfl) ?_
                  simp only [subG, sub, subs_frs, List.length_append, List.length_singleton]
                  rw [w64 (by omega) (by omega)]; rfl
            · have hie : inF R L[i] = R := by unfold inF; rw [if_neg (fun h => hroom h.2)]
              have hpe : putE (srt R) L[i] 16 = 15 := by unfold putE; rw [if_pos hmay, if_pos (by omega)]
              have hbr : (false != decide ((R.length : Int) < 16)) = false := by rw [decide_eq_false (by omega)]; rfl
              rw [hie] at hin hlen
              conv => whnf
              refine acond_t (decide_eq_true h1) ?_
              conv => whnf
              refine ⟨⟨by omega, h1⟩, ?_⟩
              conv => whnf
              refine aget_fr (k := i) (by omega) hil ?_
              conv => whnf
              refine ACall.frameH [0, 3] [] rfl (args' := [.p (some (0, 0)), L[i].av]) (Hc := [.c [.sl (some (1, 0)) 12 (srt R).length cq, .i .i64 16], .c (frs (srt R) ++ Yq)]) rfl (by show [_, Blk.c (subs _ _)] = _; simp only [hzq0]; rfl) (qput_no (srt R) L[i] 15 hoks ha 16 cq Yq kq1 kq2 kq3 hpe (by omega) (by omega)) ?_
              clear hzq0 kq1 kq2 kq3
              rintro r H ⟨rfl, cq, Yq, kq1, kq2, kq3, rfl⟩
              have hzq : ∀ φ, subs φ (frs (srt R) ++ Yq) = frs (srt R) ++ Yq := (Pl.frs _).app kq2
              refine ⟨.inl rfl, [.c [.sl (some (3, 0)) 12 (srt R).length cq, .i .i64 16], .c [.sl none 0 0 0, .i .i64 16], .c (frs R), .c (frs (srt R) ++ Yq)], (by show [_, _, _, Blk.c (subs _ _)] = _; simp only [hzq]; rfl), ?_⟩
              conv => whnf
              refine ⟨⟨by omega, h1⟩, ?_⟩
              conv => whnf
              refine aget_fr (k := i) (by omega) hil ?_
              conv => whnf
              refine ACall.frameH [] [] rfl (args' := [L[i].av]) (Hc := []) rfl rfl hchk ?_
              rintro r H ⟨rfl, rfl⟩
              refine ⟨.inl rfl, [.c [.sl (some (3, 0)) 12 (srt R).length cq, .i .i64 16], .c [.sl none 0 0 0, .i .i64 16], .c (frs R), .c (frs (srt R) ++ Yq)], rfl, ?_⟩
              conv => whnf
              repeat (refine acond_f hbr ?_; conv => whnf)
              refine Gh.regs [10, 9, 7, 5, 4, 1, 0] (Gh.of ⟨L.length - (i + 1), by omega, i + 1, R, e, by omega, rfl, hlen, hin, he, .inr ⟨cq, Yq, hne, kq1, kq2, kq3, rfl⟩, ?_⟩)
              rw [w64 (by omega) (by omega)]; rfl
        · rw [Fr.bad hmay] at hchk
          have hie : inF R L[i] = R := by unfold inF; rw [if_neg (fun h => hmay h.1)]
          rw [hie] at hin hlen
          have hpe : putE (srt R) L[i] 16 = 14 := by unfold putE; rw [if_neg hmay]
          rcases hst with ⟨rfl, rfl⟩ | ⟨cq, Yq, hne, kq1, kq2, kq3, rfl⟩
          ·
            conv => whnf
            refine acond_t (decide_eq_true h1) ?_
            conv => whnf
            refine ⟨⟨by omega, h1⟩, ?_⟩
            conv => whnf
            refine aget_fr (k := i) (by omega) hil ?_
            conv => whnf
            refine ACall.frameH [0] [] rfl (args' := [.p (some (0, 0)), L[i].av]) (Hc := [.c [.sl none 0 0 0, .i .i64 16]]) rfl rfl (qput_nil L[i] ha 16 (by omega)) ?_
            rintro r H ⟨rfl, hh⟩
            obtain ⟨_, rfl⟩ := hh.resolve_left (fun h0 => hmay h0.1)
            rw [Fr.bad hmay]
            refine ⟨.inl rfl, [.c [.sl none 0 0 0, .i .i64 16], .c [.sl none 0 0 0, .i .i64 16], .c (frs [])], rfl, ?_⟩
            conv => whnf
            refine ⟨⟨by omega, h1⟩, ?_⟩
            conv => whnf
            refine aget_fr (k := i) (by omega) hil ?_
            conv => whnf
            refine ACall.frameH [] [] rfl (args' := [L[i].av]) (Hc := []) rfl rfl hchk ?_
            rintro r H ⟨rfl, rfl⟩
            refine ⟨.inl rfl, [.c [.sl none 0 0 0, .i .i64 16], .c [.sl none 0 0 0, .i .i64 16], .c (frs [])], rfl, ?_⟩
            conv => whnf
            refine Gh.regs [10, 9, 7, 5, 4, 1, 0] (Gh.of ⟨L.length - (i + 1), by omega, i + 1, [], e, by omega, rfl, hlen, hin, he, .inl ⟨rfl, rfl⟩, ?_⟩)
            rw [w64 (by omega) (by omega)]; rfl
          · have hzq0 : ∀ φ, subs φ (frs (srt R) ++ Yq) = frs (srt R) ++ Yq := (Pl.frs _).app kq2
            conv => whnf
            refine acond_t (decide_eq_true h1) ?_
            conv => whnf
            refine ⟨⟨by omega, h1⟩, ?_⟩
            conv => whnf
            refine aget_fr (k := i) (by omega) hil ?_
            conv => whnf
            refine ACall.frameH [0, 3] [] rfl (args' := [.p (some (0, 0)), L[i].av]) (Hc := [.c [.sl (some (1, 0)) 12 (srt R).length cq, .i .i64 16], .c (frs (srt R) ++ Yq)]) rfl (by show [_, Blk.c (subs _ _)] = _; simp only [hzq0]; rfl) (qput_no (srt R) L[i] 14 hoks ha 16 cq Yq kq1 kq2 kq3 hpe (by omega) (by omega)) ?_
            clear hzq0 kq1 kq2 kq3
            rintro r H ⟨rfl, cq, Yq, kq1, kq2, kq3, rfl⟩
            have hzq : ∀ φ, subs φ (frs (srt R) ++ Yq) = frs (srt R) ++ Yq := (Pl.frs _).app kq2
            refine ⟨.inl rfl, [.c [.sl (some (3, 0)) 12 (srt R).length cq, .i .i64 16], .c [.sl none 0 0 0, .i .i64 16], .c (frs R), .c (frs (srt R) ++ Yq)], (by show [_, _, _, Blk.c (subs _ _)] = _; simp only [hzq]; rfl), ?_⟩
            conv => whnf
            refine ⟨⟨by omega, h1⟩, ?_⟩
            conv => whnf
            refine aget_fr (k := i) (by omega) hil ?_
            conv => whnf
            refine ACall.frameH [] [] rfl (args' := [L[i].av]) (Hc := []) rfl rfl hchk ?_
            rintro r H ⟨rfl, rfl⟩
            refine ⟨.inl rfl, [.c [.sl (some (3, 0)) 12 (srt R).length cq, .i .i64 16], .c [.sl none 0 0 0, .i .i64 16], .c (frs R), .c (frs (srt R) ++ Yq)], rfl, ?_⟩
            conv => whnf
            refine Gh.regs [10, 9, 7, 5, 4, 1, 0] (Gh.of ⟨L.length - (i + 1), by omega, i + 1, R, e, by omega, rfl, hlen, hin, he, .inr ⟨cq, Yq, hne, kq1, kq2, kq3, rfl⟩, ?_⟩)
            rw [w64 (by omega) (by omega)]; rfl
      · rcases hst with ⟨rfl, rfl⟩ | ⟨cq, Yq, hne, kq1, kq2, kq3, rfl⟩
        ·
          conv => whnf
          refine acond_f (decide_eq_false h1) ?_
          conv => whnf
          refine ACall.frameH [0] [] rfl (args' := [.p (some (0, 0))]) (Hc := [.c [.sl none 0 0 0, .i .i64 16]]) rfl rfl (qall_nil 16) ?_
          rintro r H ⟨rfl, rfl⟩
          refine ⟨.inl rfl, [.c [.sl none 0 0 0, .i .i64 16], .c [.sl none 0 0 0, .i .i64 16], .c (frs [])], rfl, ?_⟩
          conv => whnf
          refine ACall.frameH [0] [] rfl (args' := [.p (some (0, 0))]) (Hc := [.c [.sl none 0 0 0, .i .i64 16]]) rfl rfl (qlen_spec none 0 0 0 (.i .i64 16) []) ?_
          rintro r H ⟨rfl, rfl⟩
          refine ⟨.inl rfl, [.c [.sl none 0 0 0, .i .i64 16], .c [.sl none 0 0 0, .i .i64 16], .c (frs [])], rfl, ?_⟩
          conv => whnf
          refine ALoop.ind (ip := false) tok (fun m r H => H = [.c [.sl none 0 0 0, .i .i64 16], .c [.sl none 0 0 0, .i .i64 16], .c (frs [])] ∧ r = [(13, .i .i64 1), (12, .sl none 0 0 0), (9, .sl (some (2, 0)) 12 0 e), (7, .p (some (1, 0))), (5, .p (some (0, 0))), (4, .b false), (1, .i .i64 by_)]) 0 ?_ ?_
          · exact Gh.regs [13, 12, 9, 7, 5, 4, 1] (Gh.of ⟨rfl, rfl⟩)
          · rintro m r H ⟨rfl, rfl⟩
            conv => whnf
            refine ALoop.ind (ip := false) tok (fun m r H => H = [.c [.sl none 0 0 0, .i .i64 16], .c [.sl none 0 0 0, .i .i64 16], .c (frs [])] ∧ r = [(14, .i .i64 0), (12, .sl none 0 0 0), (9, .sl (some (2, 0)) 12 0 e), (7, .p (some (1, 0))), (5, .p (some (0, 0))), (4, .b false), (1, .i .i64 by_)]) 0 ?_ ?_
            · exact Gh.regs [14, 12, 9, 7, 5, 4, 1] (Gh.of ⟨rfl, rfl⟩)
            · rintro m r H ⟨rfl, rfl⟩
              conv => whnf
              refine ACall.frameH [0] [] rfl (args' := [.p (some (0, 0))]) (Hc := [.c [.sl none 0 0 0, .i .i64 16]]) rfl rfl (qfirst_nil 16) ?_
              rintro r H ⟨rfl, rfl⟩
              refine ⟨.inl rfl, [.c [.sl none 0 0 0, .i .i64 16], .c [.sl none 0 0 0, .i .i64 16], .c (frs [])], rfl, ?_⟩
              conv => whnf
              refine ⟨(by show 0 + 12 ≤ 12; omega), ?_⟩
              conv => whnf
              refine ACall.frameH [] [] rfl (args' := []) (Hc := []) rfl rfl awake9_spec ?_
              rintro r H ⟨rfl, rfl⟩
              refine ⟨.inl rfl, _, rfl, ?_⟩
              conv => whnf
              exact GhR.sel [] rfl (GhR.of ⟨rfl, rfl⟩)
        · have hzq : ∀ φ, subs φ (frs (srt R) ++ Yq) = frs (srt R) ++ Yq := (Pl.frs _).app kq2
          have hR0 : 0 < R.length := List.length_pos_iff.2 hne
          have hbl : (((srt R).length : Int) != (R.length : Int)) = false := by rw [hsl]; simp
          conv => whnf
          refine acond_f (decide_eq_false h1) ?_
          conv => whnf
          refine ACall.frameH [0, 3] [] rfl (args' := [.p (some (0, 0))]) (Hc := [.c [.sl (some (1, 0)) 12 (srt R).length cq, .i .i64 16], .c (frs (srt R) ++ Yq)]) rfl (by show [_, Blk.c (subs _ _)] = _; simp only [hzq]; rfl) (qall_spec (srt R) 16 cq Yq kq2 (by omega)) ?_
          rintro r H ⟨da, hda, rfl, rfl⟩
          refine ⟨.inl rfl, [.c [.sl (some (3, 0)) 12 (srt R).length cq, .i .i64 16], .c [.sl none 0 0 0, .i .i64 16], .c (frs R), .c (frs (srt R) ++ Yq), .c (frs (srt R))], (by show [_, _, _, Blk.c (subs _ _), Blk.c (subs _ _)] = _; simp only [hzq, hzf]; rfl), ?_⟩
          conv => whnf
          repeat (refine acond_f hbl ?_; conv => whnf)
          refine ACall.frameH [0, 3] [] rfl (args' := [.p (some (0, 0))]) (Hc := [.c [.sl (some (1, 0)) 12 (srt R).length cq, .i .i64 16], .c (frs (srt R) ++ Yq)]) rfl (by show [_, Blk.c (subs _ _)] = _; simp only [hzq]; rfl) (qlen_spec (some (1, 0)) 12 (srt R).length cq (.i .i64 16) [.c (frs (srt R) ++ Yq)]) ?_
          rintro r H ⟨rfl, rfl⟩
          refine ⟨.inl rfl, [.c [.sl (some (3, 0)) 12 (srt R).length cq, .i .i64 16], .c [.sl none 0 0 0, .i .i64 16], .c (frs R), .c (frs (srt R) ++ Yq), .c (frs (srt R))], (by show [_, _, _, Blk.c (subs _ _), _] = _; simp only [hzq]; rfl), ?_⟩
          conv => whnf
          repeat (refine acond_f hbl ?_; conv => whnf)
          refine ALoop.ind (ip := false) tok (fun m r H => ∃ (j : Nat), 1 ≤ j ∧ j ≤ (srt R).length ∧ m = (srt R).length - j ∧ H = [.c [.sl (some (3, 0)) 12 (srt R).length cq, .i .i64 16], .c [.sl none 0 0 0, .i .i64 16], .c (frs R), .c (frs (srt R) ++ Yq), .c (frs (srt R))] ∧
            r = [(13, .i .i64 j), (12, .sl (some (4, 0)) 12 (srt R).length da), (9, .sl (some (2, 0)) 12 R.length e), (7, .p (some (1, 0))), (5, .p (some (0, 0))), (4, .b false), (1, .i .i64 by_)]) ((srt R).length - 1) ?_ ?_
          · exact Gh.regs [13, 12, 9, 7, 5, 4, 1] (Gh.of ⟨1, by omega, by omega, rfl, rfl, rfl⟩)
          · rintro m r H ⟨j, hj1, hj2, rfl, rfl, rfl⟩
            by_cases h2 : (j : Int) < (srt R).length
            · have hjl : j < (srt R).length := by omega
              have hless := less_spec (srt R)[j] ((srt R)[j - 1]'(by omega)) (hoks _ (List.getElem_mem _)) (hoks _ (List.getElem_mem _))
              rw [List.pairwise_iff_getElem.1 (srt_srt R) (j - 1) j (by omega) hjl (by omega)] at hless
              have hw1 : IntKind.i64.wrap ((j : Int) - 1) = ((j - 1 : Nat) : Int) := by rw [w64 (by omega) (by omega)]; omega
              conv => whnf
              refine acond_t (decide_eq_true h2) ?_
              conv => whnf
              refine ADraw.of tok mixed false [0, 1, 2, 3, 4, 5, 6, 7, 8] [9] (by kernel_rfl) (fun _ _ _ _ h => h) ?_
              conv => whnf
              refine ⟨⟨by omega, h2⟩, ?_⟩
              conv => whnf
              refine aget_fr (k := j) (by omega) hjl ?_
              conv => whnf
              refine ⟨⟨by rw [hw1]; omega, by rw [hw1]; omega⟩, ?_⟩
              conv => whnf
              refine aget_fr (k := j - 1) (by rw [hw1]; omega) (by omega) ?_
              conv => whnf
              refine ACall.frameH [] [] rfl (args' := [(srt R)[j].av, ((srt R)[j - 1]'(by omega)).av]) (Hc := []) rfl rfl hless ?_
              rintro r H ⟨rfl, rfl⟩
              refine ⟨.inl rfl, [.c [.sl (some (3, 0)) 12 (srt R).length cq, .i .i64 16], .c [.sl none 0 0 0, .i .i64 16], .c (frs R), .c (frs (srt R) ++ Yq), .c (frs (srt R))], rfl, ?_⟩
              conv => whnf
              refine Gh.regs [13, 12, 9, 7, 5, 4, 1] (Gh.of ⟨(srt R).length - (j + 1), by omega, j + 1, by omega, by omega, rfl, rfl, ?_⟩)
              rw [w64 (by omega) (by omega)]; rfl
            · conv => whnf
              refine acond_f (decide_eq_false h2) ?_
              conv => whnf
              refine ALoop.ind (ip := false) tok (fun m r H => ∃ (j : Nat), j ≤ R.length ∧ m = R.length - j ∧ H = [.c [.sl (some (3, 0)) 12 (srt R).length cq, .i .i64 16], .c [.sl none 0 0 0, .i .i64 16], .c (frs R), .c (frs (srt R) ++ Yq), .c (frs (srt R))] ∧
                r = [(14, .i .i64 j), (12, .sl (some (4, 0)) 12 (srt R).length da), (9, .sl (some (2, 0)) 12 R.length e), (7, .p (some (1, 0))), (5, .p (some (0, 0))), (4, .b false), (1, .i .i64 by_)]) R.length ?_ ?_
              · exact Gh.regs [14, 12, 9, 7, 5, 4, 1] (Gh.of ⟨0, by omega, rfl, rfl, rfl⟩)
              · clear hj1 hj2 h2 j
                rintro m r H ⟨j, hj2, rfl, rfl, rfl⟩
                by_cases h3 : (j : Int) < R.length
                · have hjl : j < R.length := by omega
                  have hG := hmo _ (List.getElem_mem hjl)
                  have hfil := filter_srt hG.1 R.length R rfl hm
                  conv => whnf
                  refine acond_t (decide_eq_true h3) ?_
                  conv => whnf
                  refine ALoop.ind (ip := false) tok (fun m r H => ∃ (t ca cb : Nat), t ≤ R.length ∧ m = R.length - t ∧ ((R.take t).filter fun K => K.rival R[j]).length ≤ ca ∧ (((srt R).take t).filter fun K => K.rival R[j]).length ≤ cb ∧ H = [.c [.sl (some (3, 0)) 12 (srt R).length cq, .i .i64 16], .c [.sl none 0 0 0, .i .i64 16], .c (frs R), .c (frs (srt R) ++ Yq), .c (frs (srt R)), .c (frs ((R.take t).filter fun K => K.rival R[j])), .c (frs (((srt R).take t).filter fun K => K.rival R[j]))] ∧
                    r = [(17, .i .i64 t), (16, .sl (some (6, 0)) 12 (((srt R).take t).filter fun K => K.rival R[j]).length cb), (15, .sl (some (5, 0)) 12 ((R.take t).filter fun K => K.rival R[j]).length ca), (14, .i .i64 j), (12, .sl (some (4, 0)) 12 (srt R).length da), (9, .sl (some (2, 0)) 12 R.length e), (7, .p (some (1, 0))), (5, .p (some (0, 0))), (4, .b false), (1, .i .i64 by_)]) R.length ?_ ?_
                  · exact Gh.regs [17, 16, 15, 14, 12, 9, 7, 5, 4, 1] (Gh.of ⟨0, 0, 0, by omega, rfl, by simp, by simp, rfl, rfl⟩)
                  · rintro m r H ⟨t, ca, cb, ht, rfl, hca, hcb, rfl, rfl⟩
                    have hla : ((R.take t).filter fun K => K.rival R[j]).length ≤ t := Nat.le_trans (List.length_filter_le ..) (by rw [List.length_take]; omega)
                    have hlb : (((srt R).take t).filter fun K => K.rival R[j]).length ≤ t := Nat.le_trans (List.length_filter_le ..) (by rw [List.length_take]; omega)
                    have hfa := frs_length ((R.take t).filter fun K => K.rival R[j])
                    have hfb := frs_length (((srt R).take t).filter fun K => K.rival R[j])
                    by_cases h4 : (t : Int) < R.length
                    · have htl : t < R.length := by omega
                      have hts : t < (srt R).length := by omega
                      have hna := filter_take_next (p := fun K => K.rival R[j]) htl
                      have hnb := filter_take_next (p := fun K => K.rival R[j]) hts
                      have hra := rival_spec R[t] R[j] (hmo _ (List.getElem_mem _)).2 hG.2
                      have hrb := rival_spec (srt R)[t] R[j] (hoks _ (List.getElem_mem _)) hG.2
                      cases ea : R[t].rival R[j]
                      ·
                        rw [if_neg (show ¬ (fun K : Fr => K.rival R[j]) R[t] = true from fun h => by rw [show (fun K : Fr => K.rival R[j]) R[t] = R[t].rival R[j] from rfl, ea] at h; cases h), List.append_nil] at hna
                        rw [ea] at hra
                        cases eb : (srt R)[t].rival R[j]
                        ·
                          rw [if_neg (show ¬ (fun K : Fr => K.rival R[j]) (srt R)[t] = true from fun h => by rw [show (fun K : Fr => K.rival R[j]) (srt R)[t] = (srt R)[t].rival R[j] from rfl, eb] at h; cases h), List.append_nil] at hnb
                          rw [eb] at hrb
                          conv => whnf
                          refine acond_t (decide_eq_true h4) ?_
                          conv => whnf
                          refine ADraw.of tok mixed false [0, 1, 2, 3, 4, 5, 6, 7] [8] (by kernel_rfl) (fun _ _ _ _ h => h) ?_
                          conv => whnf
                          refine ⟨⟨by omega, h4⟩, ?_⟩
                          conv => whnf
                          refine aget_fr (k := t) (by omega) htl ?_
                          conv => whnf
                          refine ⟨⟨by omega, h3⟩, ?_⟩
                          conv => whnf
                          refine aget_fr (k := j) (by omega) hjl ?_
                          conv => whnf
                          refine ACall.frameH [] [] rfl (args' := [R[t].av, R[j].av]) (Hc := []) rfl rfl hra ?_
                          rintro r H ⟨rfl, rfl⟩
                          refine ⟨.inl rfl, [.c [.sl (some (3, 0)) 12 (srt R).length cq, .i .i64 16], .c [.sl none 0 0 0, .i .i64 16], .c (frs R), .c (frs (srt R) ++ Yq), .c (frs (srt R)), .c (frs ((R.take t).filter fun K => K.rival R[j])), .c (frs (((srt R).take t).filter fun K => K.rival R[j]))], rfl, ?_⟩
                          conv => whnf
                          refine ADraw.of tok mixed false [0, 1, 2, 3, 4, 5, 6, 7] [8] (by kernel_rfl) (fun _ _ _ _ h => h) ?_
                          conv => whnf
                          refine ⟨⟨by omega, by omega⟩, ?_⟩
                          conv => whnf
                          refine aget_fr (k := t) (by omega) hts ?_
                          conv => whnf
                          refine ⟨⟨by omega, h3⟩, ?_⟩
                          conv => whnf
                          refine aget_fr (k := j) (by omega) hjl ?_
                          conv => whnf
                          refine ACall.frameH [] [] rfl (args' := [(srt R)[t].av, R[j].av]) (Hc := []) rfl rfl hrb ?_
                          rintro r H ⟨rfl, rfl⟩
                          refine ⟨.inl rfl, [.c [.sl (some (3, 0)) 12 (srt R).length cq, .i .i64 16], .c [.sl none 0 0 0, .i .i64 16], .c (frs R), .c (frs (srt R) ++ Yq), .c (frs (srt R)), .c (frs ((R.take t).filter fun K => K.rival R[j])), .c (frs (((srt R).take t).filter fun K => K.rival R[j]))], rfl, ?_⟩
                          conv => whnf
                          refine Gh.regs [17, 16, 15, 14, 12, 9, 7, 5, 4, 1] (Gh.of ⟨R.length - (t + 1), by omega, t + 1, ca, cb, by omega, rfl, ?_, ?_, ?_, ?_⟩)
                          · rw [hna]; exact hca
                          · rw [hnb]; exact hcb
                          · rw [hna, hnb]
                          · rw [hna, hnb, w64 (by omega) (by omega)]; rfl
                        ·
                          rw [if_pos (show (fun K : Fr => K.rival R[j]) (srt R)[t] = true from eb)] at hnb
                          rw [eb] at hrb
                          conv => whnf
                          refine acond_t (decide_eq_true h4) ?_
                          conv => whnf
                          refine ADraw.of tok mixed false [0, 1, 2, 3, 4, 5, 6, 7] [8] (by kernel_rfl) (fun _ _ _ _ h => h) ?_
                          conv => whnf
                          refine ⟨⟨by omega, h4⟩, ?_⟩
                          conv => whnf
                          refine aget_fr (k := t) (by omega) htl ?_
                          conv => whnf
                          refine ⟨⟨by omega, h3⟩, ?_⟩
                          conv => whnf
                          refine aget_fr (k := j) (by omega) hjl ?_
                          conv => whnf
                          refine ACall.frameH [] [] rfl (args' := [R[t].av, R[j].av]) (Hc := []) rfl rfl hra ?_
                          rintro r H ⟨rfl, rfl⟩
                          refine ⟨.inl rfl, [.c [.sl (some (3, 0)) 12 (srt R).length cq, .i .i64 16], .c [.sl none 0 0 0, .i .i64 16], .c (frs R), .c (frs (srt R) ++ Yq), .c (frs (srt R)), .c (frs ((R.take t).filter fun K => K.rival R[j])), .c (frs (((srt R).take t).filter fun K => K.rival R[j]))], rfl, ?_⟩
                          conv => whnf
                          refine ADraw.of tok mixed false [0, 1, 2, 3, 4, 5, 6, 7] [8] (by kernel_rfl) (fun _ _ _ _ h => h) ?_
                          conv => whnf
                          refine ⟨⟨by omega, by omega⟩, ?_⟩
                          conv => whnf
                          refine aget_fr (k := t) (by omega) hts ?_
                          conv => whnf
                          refine ⟨⟨by omega, h3⟩, ?_⟩
                          conv => whnf
                          refine aget_fr (k := j) (by omega) hjl ?_
                          conv => whnf
                          refine ACall.frameH [] [] rfl (args' := [(srt R)[t].av, R[j].av]) (Hc := []) rfl rfl hrb ?_
                          rintro r H ⟨rfl, rfl⟩
                          refine ⟨.inl rfl, [.c [.sl (some (3, 0)) 12 (srt R).length cq, .i .i64 16], .c [.sl none 0 0 0, .i .i64 16], .c (frs R), .c (frs (srt R) ++ Yq), .c (frs (srt R)), .c (frs ((R.take t).filter fun K => K.rival R[j])), .c (frs (((srt R).take t).filter fun K => K.rival R[j]))], rfl, ?_⟩
                          conv => whnf
                          refine ⟨⟨by omega, by omega⟩, ?_⟩
                          conv => whnf
                          refine aget_fr (k := t) (by omega) hts ?_
                          conv => whnf
                          refine ⟨by dsimp only; omega, ?_⟩
                          conv => whnf
                          refine ⟨by show 12 ≤ (12 : Nat); omega, ?_⟩
                          conv => whnf
                          refine ⟨rfl, by (try dsimp only); omega, by omega, fun g3 hg3 => ?_⟩
                          conv => whnf
                          refine Gh.regs [17, 16, 15, 14, 12, 9, 7, 5, 4, 1] (Gh.sel [0, 1, 2, 3, 4, 5, 8] rfl (Gh.of ⟨R.length - (t + 1), by omega, t + 1, ca, g3, by omega, rfl, ?_, ?_, ?_, ?_⟩))
                          · rw [hna]; exact hca
                          · rw [hnb, List.length_append]; exact hg3
                          · rw [hna, hnb]
                            have hAqb : List.take ((((srt R).take t).filter fun K => K.rival R[j]).length * 12) (List.drop 0 (frs (((srt R).take t).filter fun K => K.rival R[j]))) ++ (srt R)[t].cells = frs ((((srt R).take t).filter fun K => K.rival R[j]) ++ [(srt R)[t]]) := by
                              rw [List.drop_zero, List.take_of_length_le (by rw [frs_length]; omega), ← frs_one, ← frs_append]
                            show [_, _, Blk.c (subs _ _), Blk.c (subs _ _), Blk.c (subs _ _), Blk.c (subs _ _), Blk.c (subs _ (List.take ((((srt R).take t).filter fun K => K.rival R[j]).length * 12) (List.drop 0 (frs (((srt R).take t).filter fun K => K.rival R[j]))) ++ (srt R)[t].cells))] = _
                            rw [hAqb]
                            simp only [hzq, subs_frs]
                            rfl
                          · rw [hna, hnb]
                            refine keep_eq (show keepR _ _ = [_, _, _, _, _, _, _, _, _, _] from rfl) ?_
                            simp only [subG, sub, List.length_append, List.length_singleton]
                            rw [w64 (by omega) (by omega)]; rfl
                      ·
                        rw [if_pos (show (fun K : Fr => K.rival R[j]) R[t] = true from ea)] at hna
                        rw [ea] at hra
                        cases eb : (srt R)[t].rival R[j]
                        ·
                          rw [if_neg (show ¬ (fun K : Fr => K.rival R[j]) (srt R)[t] = true from fun h => by rw [show (fun K : Fr => K.rival R[j]) (srt R)[t] = (srt R)[t].rival R[j] from rfl, eb] at h; cases h), List.append_nil] at hnb
                          rw [eb] at hrb
                          conv => whnf
                          refine acond_t (decide_eq_true h4) ?_
                          conv => whnf
                          refine ADraw.of tok mixed false [0, 1, 2, 3, 4, 5, 6, 7] [8] (by kernel_rfl) (fun _ _ _ _ h => h) ?_
                          conv => whnf
                          refine ⟨⟨by omega, h4⟩, ?_⟩
                          conv => whnf
                          refine aget_fr (k := t) (by omega) htl ?_
                          conv => whnf
                          refine ⟨⟨by omega, h3⟩, ?_⟩
                          conv => whnf
                          refine aget_fr (k := j) (by omega) hjl ?_
                          conv => whnf
                          refine ACall.frameH [] [] rfl (args' := [R[t].av, R[j].av]) (Hc := []) rfl rfl hra ?_
                          rintro r H ⟨rfl, rfl⟩
                          refine ⟨.inl rfl, [.c [.sl (some (3, 0)) 12 (srt R).length cq, .i .i64 16], .c [.sl none 0 0 0, .i .i64 16], .c (frs R), .c (frs (srt R) ++ Yq), .c (frs (srt R)), .c (frs ((R.take t).filter fun K => K.rival R[j])), .c (frs (((srt R).take t).filter fun K => K.rival R[j]))], rfl, ?_⟩
                          conv => whnf
                          refine ⟨⟨by omega, h4⟩, ?_⟩
                          conv => whnf
                          refine aget_fr (k := t) (by omega) htl ?_
                          conv => whnf
                          refine ⟨by dsimp only; omega, ?_⟩
                          conv => whnf
                          refine ⟨by show 12 ≤ (12 : Nat); omega, ?_⟩
                          conv => whnf
                          refine ⟨rfl, by (try dsimp only); omega, by omega, fun g2 hg2 => ?_⟩
                          conv => whnf
                          refine ADraw.of tok mixed false [0, 1, 2, 3, 4, 5, 6, 7] [8] (by kernel_rfl) (fun _ _ _ _ h => h) ?_
                          conv => whnf
                          refine ⟨⟨by omega, by omega⟩, ?_⟩
                          conv => whnf
                          refine aget_fr (k := t) (by omega) hts ?_
                          conv => whnf
                          refine ⟨⟨by omega, h3⟩, ?_⟩
                          conv => whnf
                          refine aget_fr (k := j) (by omega) hjl ?_
                          conv => whnf
                          refine ACall.frameH [] [] rfl (args' := [(srt R)[t].av, R[j].av]) (Hc := []) rfl rfl hrb ?_
                          rintro r H ⟨rfl, rfl⟩
                          refine ⟨.inl rfl, [.c [.sl (some (3, 0)) 12 (srt R).length cq, .i .i64 16], .c [.sl none 0 0 0, .i .i64 16], .c (frs R), .c (frs (srt R) ++ Yq), .c (frs (srt R)), .dead, .c (frs (((srt R).take t).filter fun K => K.rival R[j])), .c R[t].cells, .c (List.take (((R.take t).filter fun K => K.rival R[j]).length * 12) (List.drop 0 (frs ((R.take t).filter fun K => K.rival R[j]))) ++ R[t].cells)], rfl, ?_⟩
                          conv => whnf
                          refine Gh.regs [17, 16, 15, 14, 12, 9, 7, 5, 4, 1] (Gh.sel [0, 1, 2, 3, 4, 8, 6] rfl (Gh.of ⟨R.length - (t + 1), by omega, t + 1, g2, cb, by omega, rfl, ?_, ?_, ?_, ?_⟩))
                          · rw [hna, List.length_append]; exact hg2
                          · rw [hnb]; exact hcb
                          · rw [hna, hnb]
                            have hAqa : List.take (((R.take t).filter fun K => K.rival R[j]).length * 12) (List.drop 0 (frs ((R.take t).filter fun K => K.rival R[j]))) ++ R[t].cells = frs (((R.take t).filter fun K => K.rival R[j]) ++ [R[t]]) := by
                              rw [List.drop_zero, List.take_of_length_le (by rw [frs_length]; omega), ← frs_one, ← frs_append]
                            show [_, _, Blk.c (subs _ _), Blk.c (subs _ _), Blk.c (subs _ _), Blk.c (subs _ (List.take (((R.take t).filter fun K => K.rival R[j]).length * 12) (List.drop 0 (frs ((R.take t).filter fun K => K.rival R[j]))) ++ R[t].cells)), Blk.c (subs _ _)] = _
                            rw [hAqa]
                            simp only [hzq, subs_frs]
                            rfl
                          · rw [hna, hnb]
                            refine keep_eq (show keepR _ _ = [_, _, _, _, _, _, _, _, _, _] from rfl) ?_
                            simp only [subG, sub, List.length_append, List.length_singleton]
                            rw [w64 (by omega) (by omega)]; rfl
                        ·
                          rw [if_pos (show (fun K : Fr => K.rival R[j]) (srt R)[t] = true from eb)] at hnb
                          rw [eb] at hrb
                          conv => whnf
                          refine acond_t (decide_eq_true h4) ?_
                          conv => whnf
                          refine ADraw.of tok mixed false [0, 1, 2, 3, 4, 5, 6, 7] [8] (by kernel_rfl) (fun _ _ _ _ h => h) ?_
                          conv => whnf
                          refine ⟨⟨by omega, h4⟩, ?_⟩
                          conv => whnf
                          refine aget_fr (k := t) (by omega) htl ?_
                          conv => whnf
                          refine ⟨⟨by omega, h3⟩, ?_⟩
                          conv => whnf
                          refine aget_fr (k := j) (by omega) hjl ?_
                          conv => whnf
                          refine ACall.frameH [] [] rfl (args' := [R[t].av, R[j].av]) (Hc := []) rfl rfl hra ?_
                          rintro r H ⟨rfl, rfl⟩
                          refine ⟨.inl rfl, [.c [.sl (some (3, 0)) 12 (srt R).length cq, .i .i64 16], .c [.sl none 0 0 0, .i .i64 16], .c (frs R), .c (frs (srt R) ++ Yq), .c (frs (srt R)), .c (frs ((R.take t).filter fun K => K.rival R[j])), .c (frs (((srt R).take t).filter fun K => K.rival R[j]))], rfl, ?_⟩
                          conv => whnf
                          refine ⟨⟨by omega, h4⟩, ?_⟩
                          conv => whnf
                          refine aget_fr (k := t) (by omega) htl ?_
                          conv => whnf
                          refine ⟨by dsimp only; omega, ?_⟩
                          conv => whnf
                          refine ⟨by show 12 ≤ (12 : Nat); omega, ?_⟩
                          conv => whnf
                          refine ⟨rfl, by (try dsimp only); omega, by omega, fun g2 hg2 => ?_⟩
                          conv => whnf
                          refine ADraw.of tok mixed false [0, 1, 2, 3, 4, 5, 6, 7] [8] (by kernel_rfl) (fun _ _ _ _ h => h) ?_
                          conv => whnf
                          refine ⟨⟨by omega, by omega⟩, ?_⟩
                          conv => whnf
                          refine aget_fr (k := t) (by omega) hts ?_
                          conv => whnf
                          refine ⟨⟨by omega, h3⟩, ?_⟩
                          conv => whnf
                          refine aget_fr (k := j) (by omega) hjl ?_
                          conv => whnf
                          refine ACall.frameH [] [] rfl (args' := [(srt R)[t].av, R[j].av]) (Hc := []) rfl rfl hrb ?_
                          rintro r H ⟨rfl, rfl⟩
                          refine ⟨.inl rfl, [.c [.sl (some (3, 0)) 12 (srt R).length cq, .i .i64 16], .c [.sl none 0 0 0, .i .i64 16], .c (frs R), .c (frs (srt R) ++ Yq), .c (frs (srt R)), .dead, .c (frs (((srt R).take t).filter fun K => K.rival R[j])), .c R[t].cells, .c (List.take (((R.take t).filter fun K => K.rival R[j]).length * 12) (List.drop 0 (frs ((R.take t).filter fun K => K.rival R[j]))) ++ R[t].cells)], rfl, ?_⟩
                          conv => whnf
                          refine ⟨⟨by omega, by omega⟩, ?_⟩
                          conv => whnf
                          refine aget_fr (k := t) (by omega) hts ?_
                          conv => whnf
                          refine ⟨by dsimp only; omega, ?_⟩
                          conv => whnf
                          refine ⟨by show 12 ≤ (12 : Nat); omega, ?_⟩
                          conv => whnf
                          refine ⟨rfl, by (try dsimp only); omega, by omega, fun g3 hg3 => ?_⟩
                          conv => whnf
                          refine Gh.regs [17, 16, 15, 14, 12, 9, 7, 5, 4, 1] (Gh.sel [0, 1, 2, 3, 4, 8, 10] rfl (Gh.of ⟨R.length - (t + 1), by omega, t + 1, g2, g3, by omega, rfl, ?_, ?_, ?_, ?_⟩))
                          · rw [hna, List.length_append]; exact hg2
                          · rw [hnb, List.length_append]; exact hg3
                          · rw [hna, hnb]
                            have hAqa : List.take (((R.take t).filter fun K => K.rival R[j]).length * 12) (List.drop 0 (frs ((R.take t).filter fun K => K.rival R[j]))) ++ R[t].cells = frs (((R.take t).filter fun K => K.rival R[j]) ++ [R[t]]) := by
                              rw [List.drop_zero, List.take_of_length_le (by rw [frs_length]; omega), ← frs_one, ← frs_append]
                            have hAqb : List.take ((((srt R).take t).filter fun K => K.rival R[j]).length * 12) (List.drop 0 (frs (((srt R).take t).filter fun K => K.rival R[j]))) ++ (srt R)[t].cells = frs ((((srt R).take t).filter fun K => K.rival R[j]) ++ [(srt R)[t]]) := by
                              rw [List.drop_zero, List.take_of_length_le (by rw [frs_length]; omega), ← frs_one, ← frs_append]
                            show [_, _, Blk.c (subs _ _), Blk.c (subs _ _), Blk.c (subs _ _), Blk.c (subs _ (List.take (((R.take t).filter fun K => K.rival R[j]).length * 12) (List.drop 0 (frs ((R.take t).filter fun K => K.rival R[j]))) ++ R[t].cells)), Blk.c (subs _ (List.take ((((srt R).take t).filter fun K => K.rival R[j]).length * 12) (List.drop 0 (frs (((srt R).take t).filter fun K => K.rival R[j]))) ++ (srt R)[t].cells))] = _
                            rw [hAqa, hAqb]
                            simp only [hzq, subs_frs]
                            rfl
                          · rw [hna, hnb]
                            refine keep_eq (show keepR _ _ = [_, _, _, _, _, _, _, _, _, _] from rfl) ?_
                            simp only [subG, sub, List.length_append, List.length_singleton]
                            rw [w64 (by omega) (by omega)]; rfl
                    · have htl : t = R.length := by omega
                      subst htl
                      conv => whnf
                      refine acond_f (decide_eq_false h4) ?_
                      conv => whnf
                      have hab : ((R.take R.length).filter fun K => K.rival R[j]) = (((srt R).take R.length).filter fun K => K.rival R[j]) := by
                        rw [List.take_length, ← hsl, List.take_length]; exact hfil.symm
                      have hsame := same_spec ((R.take R.length).filter fun K => K.rival R[j]) (((srt R).take R.length).filter fun K => K.rival R[j]) (by omega)
                      rw [decide_eq_true hab] at hsame
                      refine ACall.frameH [] [5, 6] rfl (Hc := []) (by show [AV.rs (subs _ (frs _)) 0 12 _, AV.rs (subs _ (frs _)) 0 12 _] = _; simp only [subs_frs]) rfl hsame ?_
                      rintro r H ⟨rfl, rfl⟩
                      refine ⟨.inr ⟨rfl, rfl⟩, [.c [.sl (some (3, 0)) 12 (srt R).length cq, .i .i64 16], .c [.sl none 0 0 0, .i .i64 16], .c (frs R), .c (frs (srt R) ++ Yq), .c (frs (srt R)), .c (frs ((R.take R.length).filter fun K => K.rival R[j])), .c (frs (((srt R).take R.length).filter fun K => K.rival R[j]))], rfl, ?_⟩
                      conv => whnf
                      refine Gh.regs [14, 12, 9, 7, 5, 4, 1] (Gh.sel [0, 1, 2, 3, 4] rfl (Gh.of ⟨R.length - (j + 1), by omega, j + 1, by omega, rfl, (by show [_, _, Blk.c (subs _ _), Blk.c (subs _ _), Blk.c (subs _ _)] = _; simp only [hzq, hzf]; rfl), ?_⟩))
                      refine keep_eq (show keepR _ _ = [_, _, _, _, _, _, _] from rfl) ?_
                      simp only [subG, sub]
                      rw [w64 (by omega) (by omega)]; rfl
                · have hjl : j = R.length := by omega
                  have hb0 : ((R.length : Int) == 0) = false := beq_eq_false_iff_ne.2 (by omega)
                  obtain ⟨sh, hsh, hshe⟩ := rem_in hR0 hl16 hby
                  have hrl := rotL_length R sh
                  have hrm : ∀ K ∈ rotL R sh, K.may ∧ K.ok := fun K h => hmo K ((rotL_perm R sh).mem_iff.1 h)
                  conv => whnf
                  refine acond_f (decide_eq_false h3) ?_
                  conv => whnf
                  repeat (refine acond_f hb0 ?_; conv => whnf)
                  refine ⟨by omega, ?_⟩
                  conv => whnf
                  refine ⟨by omega, ?_⟩
                  conv => whnf
                  refine ALoop.ind (ip := false) tok (fun m r H => ∃ (t : Nat), t ≤ R.length ∧ m = R.length - t ∧
                    ((t = 0 ∧ H = [.c [.sl (some (3, 0)) 12 (srt R).length cq, .i .i64 16], .c [.sl none 0 0 0, .i .i64 16], .c (frs R), .c (frs (srt R) ++ Yq), .c (frs (srt R))]) ∨ ∃ cw Yw, 0 < t ∧ (srt ((rotL R sh).take t)).length ≤ cw ∧ Pl Yw ∧ Yw.length = (cw - (srt ((rotL R sh).take t)).length) * 12 ∧ H = [.c [.sl (some (3, 0)) 12 (srt R).length cq, .i .i64 16], .c [.sl (some (5, 0)) 12 (srt ((rotL R sh).take t)).length cw, .i .i64 16], .c (frs R), .c (frs (srt R) ++ Yq), .c (frs (srt R)), .c (frs (srt ((rotL R sh).take t)) ++ Yw)]) ∧
                    r = [(20, .i .i64 t), (12, .sl (some (4, 0)) 12 (srt R).length da), (9, .sl (some (2, 0)) 12 R.length e), (7, .p (some (1, 0))), (5, .p (some (0, 0))), (4, .b false), (1, .i .i64 sh)]) R.length ?_ ?_
                  · refine Gh.regs [20, 12, 9, 7, 5, 4, 1] (Gh.of ⟨0, by omega, rfl, .inl ⟨rfl, rfl⟩, ?_⟩)
                    rw [← hshe]; rfl
                  · rintro m r H ⟨t, ht, rfl, hst, rfl⟩
                    have hlr : ((rotL R sh).take t).length = t := by rw [List.length_take]; omega
                    have hsr : (srt ((rotL R sh).take t)).length = t := by rw [srt_length, hlr]
                    have hokt : ∀ K ∈ (srt ((rotL R sh).take t)), K.ok := fun K h => (hrm K (List.mem_of_mem_take (srt_mem.1 h))).2
                    by_cases h5 : (t : Int) < R.length
                    · have htl : t < R.length := by omega
                      have htr : t < (rotL R sh).length := by omega
                      have hmd : (t + sh) % R.length < R.length := Nat.mod_lt _ hR0
                      have hget := rotL_get hsh htl htr
                      have hF := hmo _ (List.getElem_mem hmd)
                      have hnx := srt_take_next htr
                      rw [hget] at hnx
                      have hix : (IntKind.i64.wrap ((t : Int) + sh)).tmod R.length = (((t + sh) % R.length : Nat) : Int) := by
                        rw [w64 (by omega) (by omega), Int.tmod_eq_emod_of_nonneg (by omega), show (t : Int) + sh = ((t + sh : Nat) : Int) from by omega]; rfl
                      rcases hst with ⟨rfl, rfl⟩ | ⟨cw, Yw, ht0, kw1, kw2, kw3, rfl⟩
                      ·
                        conv => whnf
                        refine acond_t (decide_eq_true h5) ?_
                        conv => whnf
                        refine ⟨by omega, ?_⟩
                        conv => whnf
                        refine ⟨⟨by rw [hix]; omega, by rw [hix]; omega⟩, ?_⟩
                        conv => whnf
                        refine aget_fr (k := (0 + sh) % R.length) (by rw [hix]; omega) hmd ?_
                        conv => whnf
                        refine ACall.frameH [1] [] rfl (args' := [.p (some (0, 0)), (R[(0 + sh) % R.length]'hmd).av]) (Hc := [.c [.sl none 0 0 0, .i .i64 16]]) rfl rfl (qput_nil (R[(0 + sh) % R.length]'hmd) hF.2 16 (by omega)) ?_
                        rintro r H ⟨rfl, hh⟩
                        obtain ⟨_, cw, Yw, kw1, kw2, kw3, rfl⟩ := hh.resolve_right (fun h0 => h0.1 hF.1)
                        rw [Fr.good hF.1]
                        have hzw : ∀ φ, subs φ (frs [(R[(0 + sh) % R.length]'hmd)] ++ Yw) = frs [(R[(0 + sh) % R.length]'hmd)] ++ Yw := (Pl.frs _).app kw2
                        refine ⟨.inl rfl, [.c [.sl (some (3, 0)) 12 (srt R).length cq, .i .i64 16], .c [.sl (some (5, 0)) 12 [(R[(0 + sh) % R.length]'hmd)].length cw, .i .i64 16], .c (frs R), .c (frs (srt R) ++ Yq), .c (frs (srt R)), .c (frs [(R[(0 + sh) % R.length]'hmd)] ++ Yw)], (by show [_, _, _, _, _, Blk.c (subs _ _)] = _; simp only [hzw]; rfl), ?_⟩
                        conv => whnf
                        have hn1 : srt ((rotL R sh).take (0 + 1)) = [(R[(0 + sh) % R.length]'hmd)] := hnx
                        refine Gh.regs [20, 12, 9, 7, 5, 4, 1] (Gh.of ⟨R.length - (0 + 1), by omega, 0 + 1, by omega, rfl, .inr ⟨cw, Yw, by omega, by rw [hn1]; exact kw1, kw2, by rw [hn1]; exact kw3, by rw [hn1]⟩, ?_⟩)
                        rw [w64 (by omega) (by omega)]; rfl
                      · have hzw0 : ∀ φ, subs φ (frs (srt ((rotL R sh).take t)) ++ Yw) = frs (srt ((rotL R sh).take t)) ++ Yw := (Pl.frs _).app kw2
                        have hpe : putE (srt ((rotL R sh).take t)) (R[(t + sh) % R.length]'hmd) 16 = 0 := by unfold putE; rw [if_pos hF.1, if_neg (by omega)]
                        conv => whnf
                        refine acond_t (decide_eq_true h5) ?_
                        conv => whnf
                        refine ⟨by omega, ?_⟩
                        conv => whnf
                        refine ⟨⟨by rw [hix]; omega, by rw [hix]; omega⟩, ?_⟩
                        conv => whnf
                        refine aget_fr (k := (t + sh) % R.length) (by rw [hix]; omega) hmd ?_
                        conv => whnf
                        refine ACall.frameH [1, 5] [] rfl (args' := [.p (some (0, 0)), (R[(t + sh) % R.length]'hmd).av]) (Hc := [.c [.sl (some (1, 0)) 12 (srt ((rotL R sh).take t)).length cw, .i .i64 16], .c (frs (srt ((rotL R sh).take t)) ++ Yw)]) rfl (by show [_, Blk.c (subs _ _)] = _; simp only [hzw0]; rfl) (qput_ok (srt ((rotL R sh).take t)) (R[(t + sh) % R.length]'hmd) (srt ((rotL R sh).take (t + 1))) hokt hF.2 16 cw Yw kw1 kw2 kw3 hpe hnx.symm (by omega)) ?_
                        clear hzw0 kw1 kw2 kw3
                        rintro r H ⟨rfl, ⟨cw, Yw, kw1, kw2, kw3, rfl⟩ | ⟨cw, Yw, kw1, kw2, kw3, rfl⟩⟩
                        · have hzw : ∀ φ, subs φ (frs (srt ((rotL R sh).take (t + 1))) ++ Yw) = frs (srt ((rotL R sh).take (t + 1))) ++ Yw := (Pl.frs _).app kw2
                          refine ⟨.inl rfl, [.c [.sl (some (3, 0)) 12 (srt R).length cq, .i .i64 16], .c [.sl (some (5, 0)) 12 (srt ((rotL R sh).take (t + 1))).length cw, .i .i64 16], .c (frs R), .c (frs (srt R) ++ Yq), .c (frs (srt R)), .c (frs (srt ((rotL R sh).take (t + 1))) ++ Yw)], (by show [_, _, _, _, _, Blk.c (subs _ _)] = _; simp only [hzw]; rfl), ?_⟩
                          conv => whnf
                          refine Gh.regs [20, 12, 9, 7, 5, 4, 1] (Gh.of ⟨R.length - (t + 1), by omega, t + 1, by omega, rfl, .inr ⟨cw, Yw, by omega, kw1, kw2, kw3, rfl⟩, ?_⟩)
                          rw [w64 (by omega) (by omega)]; rfl
                        · have hzw : ∀ φ, subs φ (frs (srt ((rotL R sh).take (t + 1))) ++ Yw) = frs (srt ((rotL R sh).take (t + 1))) ++ Yw := (Pl.frs _).app kw2
                          refine ⟨.inl rfl, [.c [.sl (some (3, 0)) 12 (srt R).length cq, .i .i64 16], .c [.sl (some (6, 0)) 12 (srt ((rotL R sh).take (t + 1))).length cw, .i .i64 16], .c (frs R), .c (frs (srt R) ++ Yq), .c (frs (srt R)), .dead, .c (frs (srt ((rotL R sh).take (t + 1))) ++ Yw)], (by show [_, _, _, _, _, _, Blk.c (subs _ _)] = _; simp only [hzw]; rfl), ?_⟩
                          conv => whnf
                          refine Gh.regs [20, 12, 9, 7, 5, 4, 1] (Gh.sel [0, 1, 2, 3, 4, 6] rfl (Gh.of ⟨R.length - (t + 1), by omega, t + 1, by omega, rfl, .inr ⟨cw, Yw, by omega, kw1, kw2, kw3, (by show [_, _, Blk.c (subs _ _), Blk.c (subs _ _), Blk.c (subs _ _), Blk.c (subs _ _)] = _; simp only [hzq, hzw, hzf]; rfl)⟩, ?_⟩))
                          refine keep_eq (show keepR _ _ = [_, _, _, _, _, _, _] from rfl) ?_
                          simp only [subG, sub]
                          rw [w64 (by omega) (by omega)]; rfl
                    · have htl : t = R.length := by omega
                      rcases hst with ⟨h0, _⟩ | ⟨cw, Yw, ht0, kw1, kw2, kw3, rfl⟩
                      · omega
                      have htk : (rotL R sh).take t = rotL R sh := by rw [htl, ← hrl, List.take_length]
                      rw [htk] at kw1 kw3 hsr
                      rw [htk]
                      have hzw : ∀ φ, subs φ (frs (srt (rotL R sh)) ++ Yw) = frs (srt (rotL R sh)) ++ Yw := (Pl.frs _).app kw2
                      have hbl2 : (((srt (rotL R sh)).length : Int) != ((srt R).length : Int)) = false := bne_eq_false_iff_eq.2 (by omega)
                      conv => whnf
                      refine acond_f (decide_eq_false h5) ?_
                      conv => whnf
                      refine ACall.frameH [1, 5] [] rfl (args' := [.p (some (0, 0))]) (Hc := [.c [.sl (some (1, 0)) 12 (srt (rotL R sh)).length cw, .i .i64 16], .c (frs (srt (rotL R sh)) ++ Yw)]) rfl (by show [_, Blk.c (subs _ _)] = _; simp only [hzw]; rfl) (qall_spec (srt (rotL R sh)) 16 cw Yw kw2 (by omega)) ?_
                      rintro r H ⟨db, hdb, rfl, rfl⟩
                      refine ⟨.inl rfl, [.c [.sl (some (3, 0)) 12 (srt R).length cq, .i .i64 16], .c [.sl (some (5, 0)) 12 (srt (rotL R sh)).length cw, .i .i64 16], .c (frs R), .c (frs (srt R) ++ Yq), .c (frs (srt R)), .c (frs (srt (rotL R sh)) ++ Yw), .c (frs (srt (rotL R sh)))], (by show [_, _, _, _, _, Blk.c (subs _ _), Blk.c (subs _ _)] = _; simp only [hzw, hzf]; rfl), ?_⟩
                      conv => whnf
                      repeat (refine acond_f hbl2 ?_; conv => whnf)
                      refine ALoop.ind (ip := false) tok (fun m r H => ∃ (u : Nat), u ≤ (srt R).length ∧ m = (srt R).length - u ∧ H = [.c [.sl (some (3, 0)) 12 (srt R).length cq, .i .i64 16], .c [.sl (some (5, 0)) 12 (srt (rotL R sh)).length cw, .i .i64 16], .c (frs R), .c (frs (srt R) ++ Yq), .c (frs (srt R)), .c (frs (srt (rotL R sh)) ++ Yw), .c (frs (srt (rotL R sh)))] ∧
                        r = [(22, .i .i64 u), (21, .sl (some (6, 0)) 12 (srt (rotL R sh)).length db), (12, .sl (some (4, 0)) 12 (srt R).length da), (5, .p (some (0, 0))), (4, .b false)]) (srt R).length ?_ ?_
                      · exact Gh.regs [22, 21, 12, 5, 4] (Gh.of ⟨0, by omega, rfl, rfl, rfl⟩)
                      · rintro m r H ⟨u, hu, rfl, rfl, rfl⟩
                        by_cases h6 : (u : Int) < (srt R).length
                        · have hul : u < (srt R).length := by omega
                          have hur : u < (srt (rotL R sh)).length := by omega
                          have hriv := rival_spec (srt R)[u] (srt (rotL R sh))[u] (hoks _ (List.getElem_mem _)) (hrm _ (srt_mem.1 (List.getElem_mem _))).2
                          rw [srt_rival hm (rotL_perm R sh) hul hur] at hriv
                          conv => whnf
                          refine acond_t (decide_eq_true h6) ?_
                          conv => whnf
                          refine ADraw.of tok mixed false [0, 1, 2, 3, 4, 5, 6, 7] [8, 9] (by kernel_rfl) (fun _ _ _ _ h => h) ?_
                          conv => whnf
                          refine ⟨⟨by omega, h6⟩, ?_⟩
                          conv => whnf
                          refine aget_fr (k := u) (by omega) hul ?_
                          conv => whnf
                          refine ⟨⟨by omega, by omega⟩, ?_⟩
                          conv => whnf
                          refine aget_fr (k := u) (by omega) hur ?_
                          conv => whnf
                          refine ACall.frameH [] [] rfl (args' := [(srt R)[u].av, (srt (rotL R sh))[u].av]) (Hc := []) rfl rfl hriv ?_
                          rintro r H ⟨rfl, rfl⟩
                          refine ⟨.inl rfl, [.c [.sl (some (3, 0)) 12 (srt R).length cq, .i .i64 16], .c [.sl (some (5, 0)) 12 (srt (rotL R sh)).length cw, .i .i64 16], .c (frs R), .c (frs (srt R) ++ Yq), .c (frs (srt R)), .c (frs (srt (rotL R sh)) ++ Yw), .c (frs (srt (rotL R sh)))], rfl, ?_⟩
                          conv => whnf
                          refine Gh.regs [22, 21, 12, 5, 4] (Gh.of ⟨(srt R).length - (u + 1), by omega, u + 1, by omega, rfl, rfl, ?_⟩)
                          rw [w64 (by omega) (by omega)]; rfl
                        · have hln0 : 0 < (srt R).length := by omega
                          obtain ⟨F, T, hS⟩ : ∃ F T, srt R = F :: T := (list_two (srt R)).resolve_left (fun h => by rw [h] at hln0; simp at hln0)
                          have h0 : F = (srt R)[0] := by simp only [hS, List.getElem_cons_zero]
                          have heq : ((F.id == (srt R)[0].id) && ((F.ext == (srt R)[0].ext) && ((F.rtr == (srt R)[0].rtr) && ((F.len == (srt R)[0].len) && ((F.b0 == (srt R)[0].b0) && ((F.b1 == (srt R)[0].b1) && ((F.b2 == (srt R)[0].b2) && ((F.b3 == (srt R)[0].b3) && ((F.b4 == (srt R)[0].b4) && ((F.b5 == (srt R)[0].b5) && ((F.b6 == (srt R)[0].b6) && ((F.b7 == (srt R)[0].b7) && true)))))))))))) = true := by rw [fr_eq, decide_eq_true h0]
                          have hfirst := qfirst_spec F T 16 cq Yq kq2
                          rw [← hS] at hfirst
                          conv => whnf
                          refine acond_f (decide_eq_false h6) ?_
                          conv => whnf
                          refine ACall.frameH [0, 3] [] rfl (args' := [.p (some (0, 0))]) (Hc := [.c [.sl (some (1, 0)) 12 (srt R).length cq, .i .i64 16], .c (frs (srt R) ++ Yq)]) rfl (by show [_, Blk.c (subs _ _)] = _; simp only [hzq]; rfl) (hfirst) ?_
                          rintro r H ⟨rfl, rfl⟩
                          refine ⟨.inl rfl, [.c [.sl (some (3, 0)) 12 (srt R).length cq, .i .i64 16], .c [.sl (some (5, 0)) 12 (srt (rotL R sh)).length cw, .i .i64 16], .c (frs R), .c (frs (srt R) ++ Yq), .c (frs (srt R)), .c (frs (srt (rotL R sh)) ++ Yw), .c (frs (srt (rotL R sh)))], (by show [_, _, _, Blk.c (subs _ _), _, _, _] = _; simp only [hzq]; rfl), ?_⟩
                          conv => whnf
                          refine ⟨(by show 0 + 12 ≤ 12; omega), ?_⟩
                          conv => whnf
                          refine ADraw.of tok mixed false [0, 1, 2, 3, 4, 5, 6, 7, 8] [9, 10, 11] (by kernel_rfl) (fun _ _ _ _ h => h) ?_
                          conv => whnf
                          refine ⟨⟨by omega, by omega⟩, ?_⟩
                          conv => whnf
                          refine aget_fr (k := 0) (by omega) hln0 ?_
                          conv => whnf
                          refine ⟨flatFrame, ?_⟩
                          conv => whnf
                          repeat (refine acond_t heq ?_; conv => whnf)
                          refine ACall.frameH [] [] rfl (args' := []) (Hc := []) rfl rfl awake9_spec ?_
                          rintro r H ⟨rfl, rfl⟩
                          refine ⟨.inl rfl, _, rfl, ?_⟩
                          conv => whnf
                          repeat (refine acond_t heq ?_; conv => whnf)
                          exact GhR.sel [] rfl (GhR.of ⟨rfl, rfl⟩)
end Go.AK
