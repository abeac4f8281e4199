/- Texts SQLaw1, SQAwake, SQTop, SQPlain, SQSort, SQDrains: an evaluator of the model's code, proved sound, and what the program's functions do, for all inputs. -/
import Derived.Test.YtmhagleekhihoaaMS3
namespace Go.AK
open Go Go.RowKit Go.Proofs
set_option linter.unusedVariables false
set_option maxRecDepth 100000
/-- Acts, cell by cell. -/
def acs : List (Bool × Fr) → List AV
  | [] => []
  | a :: L => (.b a.1 :: a.2.cells) ++ acs L
theorem acs_length : ∀ (L : List (Bool × Fr)), (acs L).length = L.length * 13
  | [] => rfl
  | a :: L => by
    rw [acs, List.length_append, acs_length L, show (a :: L).length = L.length + 1 from rfl]
    show 13 + _ = _
    omega
theorem acs_drop : ∀ (L : List (Bool × Fr)) (k : Nat), (acs L).drop (k * 13) = acs (L.drop k)
  | L, 0 => by simp
  | [], k + 1 => by simp [acs]
  | a :: L, k + 1 => by
    rw [acs, List.drop_succ_cons, ← acs_drop L k, show (k + 1) * 13 = 13 + k * 13 from by omega, ← List.drop_drop]
    rfl
theorem acs_get {L : List (Bool × Fr)} {k : Nat} (hk : k < L.length) {j : Nat} (hj : j < 13) : (acs L)[k * 13 + j]? = (AV.b L[k].1 :: L[k].2.cells)[j]? := by
  rw [← List.getElem?_drop, acs_drop, List.drop_eq_getElem_cons hk, acs, List.getElem?_append_left (by show j < 13; exact hj)]
theorem subs_acs (φ : Nat → Sb) : ∀ (L : List (Bool × Fr)), subs φ (acs L) = acs L
  | [] => rfl
  | a :: L => by rw [acs, subs_app, subs_acs φ L]; rfl
theorem aget_act {L : List (Bool × Fr)} {k o : Nat} (ho : o = k * 13) (hk : k < L.length) {K : AV → AV → AV → AV → AV → AV → AV → AV → AV → AV → AV → AV → AV → Prop} (h : K (.b L[k].1) (.i .i64 L[k].2.id) (.b L[k].2.ext) (.b L[k].2.rtr) (.i .i64 L[k].2.len) (.i .u8 L[k].2.b0) (.i .u8 L[k].2.b1) (.i .u8 L[k].2.b2) (.i .u8 L[k].2.b3) (.i .u8 L[k].2.b4) (.i .u8 L[k].2.b5) (.i .u8 L[k].2.b6) (.i .u8 L[k].2.b7)) :
    aget (acs L) o fun v0 => aget (acs L) (o + 1) fun v1 => aget (acs L) ((o + 1) + 1) fun v2 => aget (acs L) (((o + 1) + 1) + 1) fun v3 => aget (acs L) ((((o + 1) + 1) + 1) + 1) fun v4 => aget (acs L) (((((o + 1) + 1) + 1) + 1) + 1) fun v5 => aget (acs L) ((((((o + 1) + 1) + 1) + 1) + 1) + 1) fun v6 => aget (acs L) (((((((o + 1) + 1) + 1) + 1) + 1) + 1) + 1) fun v7 => aget (acs L) ((((((((o + 1) + 1) + 1) + 1) + 1) + 1) + 1) + 1) fun v8 => aget (acs L) (((((((((o + 1) + 1) + 1) + 1) + 1) + 1) + 1) + 1) + 1) fun v9 => aget (acs L) ((((((((((o + 1) + 1) + 1) + 1) + 1) + 1) + 1) + 1) + 1) + 1) fun v10 => aget (acs L) (((((((((((o + 1) + 1) + 1) + 1) + 1) + 1) + 1) + 1) + 1) + 1) + 1) fun v11 => aget (acs L) ((((((((((((o + 1) + 1) + 1) + 1) + 1) + 1) + 1) + 1) + 1) + 1) + 1) + 1) fun v12 => K v0 v1 v2 v3 v4 v5 v6 v7 v8 v9 v10 v11 v12 := by
  subst ho
  have g : ∀ j (v : AV), j < 13 → (AV.b L[k].1 :: L[k].2.cells)[j]? = some v → (acs L)[k * 13 + j]? = some v := fun j v hj h => by rw [acs_get hk hj, h]
  unfold aget
  rw [show (acs L)[k * 13]? = some (.b L[k].1) from g 0 _ (by omega) rfl]
  dsimp only
  rw [show (acs L)[(k * 13 + 1)]? = some (.i .i64 L[k].2.id) from g 1 _ (by omega) rfl]
  dsimp only
  rw [show (acs L)[((k * 13 + 1) + 1)]? = some (.b L[k].2.ext) from g 2 _ (by omega) rfl]
  dsimp only
  rw [show (acs L)[(((k * 13 + 1) + 1) + 1)]? = some (.b L[k].2.rtr) from g 3 _ (by omega) rfl]
  dsimp only
  rw [show (acs L)[((((k * 13 + 1) + 1) + 1) + 1)]? = some (.i .i64 L[k].2.len) from g 4 _ (by omega) rfl]
  dsimp only
  rw [show (acs L)[(((((k * 13 + 1) + 1) + 1) + 1) + 1)]? = some (.i .u8 L[k].2.b0) from g 5 _ (by omega) rfl]
  dsimp only
  rw [show (acs L)[((((((k * 13 + 1) + 1) + 1) + 1) + 1) + 1)]? = some (.i .u8 L[k].2.b1) from g 6 _ (by omega) rfl]
  dsimp only
  rw [show (acs L)[(((((((k * 13 + 1) + 1) + 1) + 1) + 1) + 1) + 1)]? = some (.i .u8 L[k].2.b2) from g 7 _ (by omega) rfl]
  dsimp only
  rw [show (acs L)[((((((((k * 13 + 1) + 1) + 1) + 1) + 1) + 1) + 1) + 1)]? = some (.i .u8 L[k].2.b3) from g 8 _ (by omega) rfl]
  dsimp only
  rw [show (acs L)[(((((((((k * 13 + 1) + 1) + 1) + 1) + 1) + 1) + 1) + 1) + 1)]? = some (.i .u8 L[k].2.b4) from g 9 _ (by omega) rfl]
  dsimp only
  rw [show (acs L)[((((((((((k * 13 + 1) + 1) + 1) + 1) + 1) + 1) + 1) + 1) + 1) + 1)]? = some (.i .u8 L[k].2.b5) from g 10 _ (by omega) rfl]
  dsimp only
  rw [show (acs L)[(((((((((((k * 13 + 1) + 1) + 1) + 1) + 1) + 1) + 1) + 1) + 1) + 1) + 1)]? = some (.i .u8 L[k].2.b6) from g 11 _ (by omega) rfl]
  dsimp only
  rw [show (acs L)[((((((((((((k * 13 + 1) + 1) + 1) + 1) + 1) + 1) + 1) + 1) + 1) + 1) + 1) + 1)]? = some (.i .u8 L[k].2.b7) from g 12 _ (by omega) rfl]
  exact h

def actAV (a : Bool × Fr) : AV := .agg (.b a.1 :: a.2.cells)
/-- What an act tells, and what is in then. -/
def actE (l : List Fr) (most : Int) (a : Bool × Fr) : Int := if a.1 = true then (if a.2 ∈ l then 0 else 16) else putE l a.2 most
def actL (l : List Fr) (most : Int) (a : Bool × Fr) : List Fr := if a.1 = true then (if a.2 ∈ l then dropL l a.2 else l) else (if putE l a.2 most = 0 then putL l a.2 else l)
theorem does_spec (l : List Fr) (hok : ∀ F ∈ l, F.ok) (a : Bool × Fr) (ha : a.2.ok) (most : Int) (c : Nat) (Y : List AV) (hc : l.length ≤ c) (hY : Pl Y) (hYl : Y.length = (c - l.length) * 12) (hl : l.length < 1000000) :
    ACall Try.prog 16 [.p (some (0, 0)), actAV a] [.c [.sl (some (1, 0)) 12 l.length c, .i .i64 most], .c (frs l ++ Y)] fun r H => r = .ret (.i .i64 (actE l most a)) ∧ (QIn (actL l most a) most H ∨ QMv (actL l most a) most H) := by
  obtain ⟨d, F⟩ := a
  refine ACall.gh ?_
  refine ACall.enter tok false Try.func16 rfl rfl rfl (AW_sound (ip := false) tok _ _ _ _ ?_)
  have hp : Pl (frs l ++ Y) := (Pl.frs l).app hY
  cases d
  · conv => whnf
    refine ACall.frame [0, 1] [] rfl (args' := [.p (some (0, 0)), F.av]) (Hc := [.c [.sl (some (1, 0)) 12 l.length c, .i .i64 most], .c (frs l ++ Y)]) rfl (by show [_, Blk.c (subs _ (frs l ++ Y))] = _; rw [hp]; rfl) (qput_spec l hok F ha most c Y hc hY hYl hl) ?_
    rintro r H ⟨rfl, ⟨h0, ⟨d, Z, k1, k2, k3, rfl⟩ | ⟨d, Z, k1, k2, k3, rfl⟩⟩ | ⟨h0, d, Z, k1, k2, k3, rfl⟩⟩
    · have hL : actL l most (false, F) = putL l F := by unfold actL; rw [if_neg (by simp), if_pos h0]
      refine ⟨.inl rfl, ?_⟩
      conv => whnf
      have hz : Pl (frs (putL l F) ++ Z) := (Pl.frs _).app k2
      refine GhR.sel [0, 1] rfl (GhR.of ⟨rfl, .inl ⟨d, Z, by rw [hL]; exact k1, k2, by rw [hL]; exact k3, ?_⟩⟩)
      rw [hL]
      show [_, Blk.c (subs _ (subs _ (frs (putL l F) ++ Z)))] = _
      rw [hz, hz]
      rfl
    · have hL : actL l most (false, F) = putL l F := by unfold actL; rw [if_neg (by simp), if_pos h0]
      refine ⟨.inl rfl, ?_⟩
      conv => whnf
      have hz : Pl (frs (putL l F) ++ Z) := (Pl.frs _).app k2
      refine GhR.sel [0, 1, 3] rfl (GhR.of ⟨rfl, .inr ⟨d, Z, by rw [hL]; exact k1, k2, by rw [hL]; exact k3, ?_⟩⟩)
      rw [hL]
      show [_, _, Blk.c (subs _ (subs _ (frs (putL l F) ++ Z)))] = _
      rw [hz, hz]
      rfl
    · have hL : actL l most (false, F) = l := by unfold actL; rw [if_neg (by simp), if_neg h0]
      refine ⟨.inl rfl, ?_⟩
      conv => whnf
      have hz : Pl (frs l ++ Z) := (Pl.frs _).app k2
      refine GhR.sel [0, 1] rfl (GhR.of ⟨rfl, .inl ⟨d, Z, by rw [hL]; exact k1, k2, by rw [hL]; exact k3, ?_⟩⟩)
      rw [hL]
      show [_, Blk.c (subs _ (subs _ (frs l ++ Z)))] = _
      rw [hz, hz]
      rfl
  · conv => whnf
    refine ACall.frame [0, 1] [] rfl (args' := [.p (some (0, 0)), F.av]) (Hc := [.c [.sl (some (1, 0)) 12 l.length c, .i .i64 most], .c (frs l ++ Y)]) rfl (by show [_, Blk.c (subs _ (frs l ++ Y))] = _; rw [hp]; rfl) (qdrop_spec l F most c Y hc hY hYl hl) ?_
    rintro r H (⟨hm, rfl, d, Z, k1, k2, k3, rfl⟩ | ⟨hm, rfl, d, Z, k1, k2, k3, rfl⟩)
    · have hL : actL l most (true, F) = dropL l F := by unfold actL; rw [if_pos rfl, if_pos hm]
      have hE : actE l most (true, F) = 0 := by unfold actE; rw [if_pos rfl, if_pos hm]
      refine ⟨.inl rfl, ?_⟩
      conv => whnf
      have hz : Pl (frs (dropL l F) ++ Z) := (Pl.frs _).app k2
      refine GhR.sel [0, 1] rfl (GhR.of ⟨by rw [hE]; rfl, .inl ⟨d, Z, by rw [hL]; exact k1, k2, by rw [hL]; exact k3, ?_⟩⟩)
      rw [hL]
      show [_, Blk.c (subs _ (subs _ (frs (dropL l F) ++ Z)))] = _
      rw [hz, hz]
      rfl
    · have hL : actL l most (true, F) = l := by unfold actL; rw [if_pos rfl, if_neg hm]
      have hE : actE l most (true, F) = 16 := by unfold actE; rw [if_pos rfl, if_neg hm]
      refine ⟨.inl rfl, ?_⟩
      conv => whnf
      have hz : Pl (frs l ++ Z) := (Pl.frs _).app k2
      refine GhR.sel [0, 1] rfl (GhR.of ⟨by rw [hE]; rfl, .inl ⟨d, Z, by rw [hL]; exact k1, k2, by rw [hL]; exact k3, ?_⟩⟩)
      rw [hL]
      show [_, Blk.c (subs _ (subs _ (frs l ++ Z)))] = _
      rw [hz, hz]
      rfl
theorem does_nil (a : Bool × Fr) (ha : a.2.ok) (most : Int) (hmost : 1 ≤ most) :
    ACall Try.prog 16 [.p (some (0, 0)), actAV a] [.c [.sl none 0 0 0, .i .i64 most]] fun r H => r = .ret (.i .i64 (actE [] most a)) ∧ ((actL [] most a = [] ∧ QNil most H) ∨ QIn (actL [] most a) most H) := by
  obtain ⟨d, F⟩ := a
  refine ACall.gh ?_
  refine ACall.enter tok false Try.func16 rfl rfl rfl (AW_sound (ip := false) tok _ _ _ _ ?_)
  cases d
  · conv => whnf
    refine ACall.frame [0] [] rfl (args' := [.p (some (0, 0)), F.av]) (Hc := [.c [.sl none 0 0 0, .i .i64 most]]) rfl rfl (qput_nil F ha most hmost) ?_
    rintro r H ⟨rfl, ⟨h0, d, Z, k1, k2, k3, rfl⟩ | ⟨h0, rfl⟩⟩
    · have hE : actE [] most (false, F) = F.chk := by
        unfold actE putE; rw [if_neg (by simp), if_pos h0, if_neg (by simp; omega), Fr.good h0]
      have hL : actL [] most (false, F) = [F] := by
        have hpe : putE [] F most = 0 := by unfold putE; rw [if_pos h0, if_neg (by simp; omega)]
        unfold actL; rw [if_neg (by simp), if_pos hpe]; rfl
      refine ⟨.inl rfl, ?_⟩
      conv => whnf
      have hz : Pl (frs [F] ++ Z) := (Pl.frs _).app k2
      refine GhR.sel [0, 2] rfl (GhR.of ⟨by rw [hE]; rfl, .inr ⟨d, Z, by rw [hL]; exact k1, k2, by rw [hL]; exact k3, ?_⟩⟩)
      rw [hL]
      show [_, Blk.c (subs _ (subs _ (frs [F] ++ Z)))] = _
      rw [hz, hz]
      rfl
    · have hE : actE [] most (false, F) = F.chk := by
        unfold actE putE; rw [if_neg (by simp), if_neg h0, Fr.bad h0]
      have hL : actL [] most (false, F) = [] := by
        unfold actL putE; rw [if_neg (by simp), if_neg h0, if_neg (by decide)]
      refine ⟨.inl rfl, ?_⟩
      conv => whnf
      exact GhR.sel [0] rfl (GhR.of ⟨by rw [hE]; rfl, .inl ⟨hL, rfl⟩⟩)
  · conv => whnf
    refine ACall.frame [0] [] rfl (args' := [.p (some (0, 0)), F.av]) (Hc := [.c [.sl none 0 0 0, .i .i64 most]]) rfl rfl (qdrop_nil F most) ?_
    rintro r H ⟨rfl, rfl⟩
    refine ⟨.inl rfl, ?_⟩
    conv => whnf
    exact GhR.sel [0] rfl (GhR.of ⟨rfl, .inl ⟨rfl, rfl⟩⟩)
theorem same_spec (L M : List Fr) (hL : L.length < 1000000000) : ACall Try.prog 20 [.rs (frs L) 0 12 L.length, .rs (frs M) 0 12 M.length] [] fun r H => r = .ret (.b (decide (L = M))) ∧ H = [] := by
  refine ACall.enter tok false Try.func20 rfl rfl rfl (AW_sound (ip := false) tok _ _ _ _ ?_)
  conv => whnf
  by_cases hl : L.length = M.length
  · refine acond_f (t := ((L.length : Int) != (M.length : Int))) (by rw [hl]; exact bne_self_eq_false _) ?_
    conv => whnf
    refine ALoop.ind (ip := false) tok (fun m r H => ∃ (k : Nat), k ≤ L.length ∧ m = L.length - k ∧ L.take k = M.take k ∧ H = [] ∧
      r = [(5, .i .i64 k), (0, .rs (frs L) 0 12 L.length), (1, .rs (frs M) 0 12 M.length), (4, .b false)]) L.length ?_ ?_
    · exact Gh.regs [5, 0, 1, 4] (Gh.of ⟨0, by omega, by omega, rfl, rfl, rfl⟩)
    · rintro m r H ⟨k, hk, rfl, hn, rfl, rfl⟩
      by_cases h : (k : Int) < L.length
      · have hk1 : k < L.length := by omega
        have hk2 : k < M.length := by omega
        conv => whnf
        refine acond_t (decide_eq_true h) ?_
        conv => whnf
        refine ADraw.of tok mixed false [0, 1, 2, 3, 4, 5, 6, 7, 8] [] (by kernel_rfl) (fun _ _ _ _ h => h) ?_
        conv => whnf
        refine ⟨⟨by omega, by omega⟩, ?_⟩
        conv => whnf
        refine aget_fr (k := k) (by omega) hk1 ?_
        conv => whnf
        refine ⟨⟨by omega, by omega⟩, ?_⟩
        conv => whnf
        refine aget_fr (k := k) (by omega) hk2 ?_
        conv => whnf
        refine ⟨flatFrame, ?_⟩
        conv => whnf
        by_cases he : L[k] = M[k]
        · refine acond_f (by rw [fr_eq, decide_eq_true he]; rfl) ?_
          conv => whnf
          refine Gh.regs [5, 0, 1, 4] (Gh.of ⟨L.length - (k + 1), by omega, k + 1, by omega, rfl, ?_, rfl, ?_⟩)
          · rw [List.take_add_one, List.take_add_one, hn, List.getElem?_eq_getElem hk1, List.getElem?_eq_getElem hk2, he]
          · rw [w64 (by omega) (by omega)]; rfl
        · refine acond_t (by rw [fr_eq, decide_eq_false he]; rfl) ?_
          conv => whnf
          refine ⟨?_, rfl⟩
          rw [decide_eq_false (fun h => he (by subst h; rfl))]
      · conv => whnf
        refine acond_f (decide_eq_false h) ?_
        conv => whnf
        refine ⟨?_, rfl⟩
        have hkl : k = L.length := by omega
        rw [hkl, List.take_length, hl, List.take_length] at hn
        rw [decide_eq_true hn]
  · refine acond_t (t := ((L.length : Int) != (M.length : Int))) (bne_iff_ne.2 (by omega)) ?_
    conv => whnf
    refine ⟨?_, rfl⟩
    rw [decide_eq_false (fun h => hl (by rw [h]))]
end Go.AK
namespace Go.AK
open Go Go.RowKit Go.Proofs
set_option linter.unusedVariables false
set_option maxRecDepth 100000
def frQ (id : Int) (ext : Bool) : Fr := ⟨id, ext, false, 0, 0, 0, 0, 0, 0, 0, 0, 0⟩
theorem frQ_ok (id : Int) (ext : Bool) (h : -9223372036854775808 ≤ id ∧ id ≤ 9223372036854775807) : (frQ id ext).ok := ⟨h, by show (-9223372036854775808 : Int) ≤ 0 ∧ (0 : Int) ≤ 9223372036854775807; omega, fun x hx => by
    have : x ∈ List.replicate 8 (0 : Int) := hx
    rw [(List.mem_replicate.1 this).2]; omega⟩
theorem qput_ok (l : List Fr) (F : Fr) (l' : List Fr) (hok : ∀ F ∈ l, F.ok) (hF : F.ok) (most : Int) (c : Nat) (Y : List AV) (hc : l.length ≤ c) (hY : Pl Y) (hYl : Y.length = (c - l.length) * 12) (he : putE l F most = 0) (hl' : putL l F = l') (hl : l.length < 1000000 := by decide) :
    ACall Try.prog 21 [.p (some (0, 0)), F.av] [.c [.sl (some (1, 0)) 12 l.length c, .i .i64 most], .c (frs l ++ Y)] fun r H => r = .ret (.i .i64 0) ∧ (QIn l' most H ∨ QMv l' most H) := by
  refine ACall.mono (qput_spec l hok F hF most c Y hc hY hYl hl) ?_
  rw [he, hl']
  rintro r H ⟨rfl, ⟨_, h⟩ | ⟨h, _⟩⟩
  · exact ⟨rfl, h⟩
  · exact absurd rfl h
theorem qdrop_ok (l : List Fr) (F : Fr) (l' : List Fr) (most : Int) (c : Nat) (Y : List AV) (hc : l.length ≤ c) (hY : Pl Y) (hYl : Y.length = (c - l.length) * 12) (hm : F ∈ l) (hl' : dropL l F = l') (hl : l.length < 1000000 := by decide) :
    ACall Try.prog 19 [.p (some (0, 0)), F.av] [.c [.sl (some (1, 0)) 12 l.length c, .i .i64 most], .c (frs l ++ Y)] fun r H => r = .ret (.i .i64 0) ∧ QIn l' most H := by
  refine ACall.mono (qdrop_spec l F most c Y hc hY hYl hl) ?_
  rw [hl']
  rintro r H (⟨_, rfl, h⟩ | ⟨h, _⟩)
  · exact ⟨rfl, h⟩
  · exact absurd hm h
theorem okF (n : Int) (h : -9223372036854775808 ≤ n ∧ n ≤ 9223372036854775807 := by omega) : (frQ n false).ok := frQ_ok n false h
set_option maxHeartbeats 1000000 in
theorem awake9_spec : ACall Try.prog 14 [] [] fun r H => r = .ret (.b true) ∧ H = [] := by
  refine ACall.gh ?_
  refine ACall.enter tok false Try.func14 rfl rfl rfl (AW_sound (ip := false) tok _ _ _ _ ?_)
  conv => whnf
  refine ACall.frame [] [] rfl (args' := [.i .i64 3]) (Hc := []) rfl rfl (qnew_spec 3) ?_
  rintro r H (⟨h, _⟩ | ⟨_, _, rfl, rfl⟩)
  · omega
  refine ⟨.inl rfl, ?_⟩
  conv => whnf
  refine ACall.frame [] [] rfl (args' := [.i .i64 1]) (Hc := []) rfl rfl (qnew_spec 1) ?_
  rintro r H (⟨h, _⟩ | ⟨_, _, rfl, rfl⟩)
  · omega
  refine ⟨.inl rfl, ?_⟩
  conv => whnf
  refine ACall.frameH [0] [] rfl (args' := [.p (some (0, 0)), (frQ 5 false).av]) (Hc := [.c [.sl none 0 0 0, .i .i64 3]]) rfl rfl (qput_nil (frQ 5 false) (okF 5) 3 (by omega)) ?_
  rintro r H ⟨rfl, hh⟩
  obtain ⟨_, c, Y, hc, hY, hYl, rfl⟩ := hh.resolve_right (fun h0 => h0.1 (by decide))
  have hz : ∀ φ, subs φ (frs [frQ 5 false] ++ Y) = frs [frQ 5 false] ++ Y := (Pl.frs _).app hY
  rw [show (frQ 5 false).chk = 0 from by kernel_rfl]
  refine ⟨.inl rfl, [.c [.sl (some (2, 0)) 12 1 c, .i .i64 3], .c [.sl none 0 0 0, .i .i64 1], .c (frs [frQ 5 false] ++ Y)], by show [_, _, Blk.c (subs _ _)] = _; simp only [hz]; rfl, ?_⟩
  conv => whnf
  refine ACall.frameH [0, 2] [] rfl (args' := [.p (some (0, 0)), (frQ 3 false).av]) (Hc := [.c [.sl (some (1, 0)) 12 1 c, .i .i64 3], .c (frs [frQ 5 false] ++ Y)]) rfl (by show [_, Blk.c (subs _ _)] = _; rw [hz]; rfl) (qput_ok [frQ 5 false] (frQ 3 false) [frQ 3 false, frQ 5 false] (by intro X hX; simp only [List.mem_cons, List.not_mem_nil, or_false] at hX; all_goals (first | (rcases hX with rfl | rfl | rfl <;> exact okF _) | (rcases hX with rfl | rfl <;> exact okF _) | (subst hX; exact okF _))) (okF 3) 3 c Y hc hY hYl (by kernel_rfl) (by kernel_rfl)) ?_
  clear hz
  rintro r H ⟨rfl, ⟨c, Y, hc, hY, hYl, rfl⟩ | ⟨c, Y, hc, hY, hYl, rfl⟩⟩
  · have hz : ∀ φ, subs φ (frs [frQ 3 false, frQ 5 false] ++ Y) = frs [frQ 3 false, frQ 5 false] ++ Y := (Pl.frs _).app hY
    refine ⟨.inl rfl, [.c [.sl (some (2, 0)) 12 2 c, .i .i64 3], .c [.sl none 0 0 0, .i .i64 1], .c (frs [frQ 3 false, frQ 5 false] ++ Y)], by show [_, _, Blk.c (subs _ _)] = _; simp only [hz]; rfl, ?_⟩
    conv => whnf
    refine ACall.frameH [0, 2] [] rfl (args' := [.p (some (0, 0)), (frQ 4 false).av]) (Hc := [.c [.sl (some (1, 0)) 12 2 c, .i .i64 3], .c (frs [frQ 3 false, frQ 5 false] ++ Y)]) rfl (by show [_, Blk.c (subs _ _)] = _; rw [hz]; rfl) (qput_ok [frQ 3 false, frQ 5 false] (frQ 4 false) [frQ 3 false, frQ 4 false, frQ 5 false] (by intro X hX; simp only [List.mem_cons, List.not_mem_nil, or_false] at hX; all_goals (first | (rcases hX with rfl | rfl | rfl <;> exact okF _) | (rcases hX with rfl | rfl <;> exact okF _) | (subst hX; exact okF _))) (okF 4) 3 c Y hc hY hYl (by kernel_rfl) (by kernel_rfl)) ?_
    clear hz
    rintro r H ⟨rfl, ⟨c, Y, hc, hY, hYl, rfl⟩ | ⟨c, Y, hc, hY, hYl, rfl⟩⟩
    · have hz : ∀ φ, subs φ (frs [frQ 3 false, frQ 4 false, frQ 5 false] ++ Y) = frs [frQ 3 false, frQ 4 false, frQ 5 false] ++ Y := (Pl.frs _).app hY
      refine ⟨.inl rfl, [.c [.sl (some (2, 0)) 12 3 c, .i .i64 3], .c [.sl none 0 0 0, .i .i64 1], .c (frs [frQ 3 false, frQ 4 false, frQ 5 false] ++ Y)], by show [_, _, Blk.c (subs _ _)] = _; simp only [hz]; rfl, ?_⟩
      conv => whnf
      refine ACall.frameH [0, 2] [] rfl (args' := [.p (some (0, 0)), (frQ 4 false).av]) (Hc := [.c [.sl (some (1, 0)) 12 3 c, .i .i64 3], .c (frs [frQ 3 false, frQ 4 false, frQ 5 false] ++ Y)]) rfl (by show [_, Blk.c (subs _ _)] = _; rw [hz]; rfl) (qdrop_ok [frQ 3 false, frQ 4 false, frQ 5 false] (frQ 4 false) [frQ 3 false, frQ 5 false] 3 c Y hc hY hYl (by decide) (by kernel_rfl)) ?_
      clear hz
      rintro r H ⟨rfl, c, Y, hc, hY, hYl, rfl⟩
      have hz : ∀ φ, subs φ (frs [frQ 3 false, frQ 5 false] ++ Y) = frs [frQ 3 false, frQ 5 false] ++ Y := (Pl.frs _).app hY
      refine ⟨.inl rfl, [.c [.sl (some (2, 0)) 12 2 c, .i .i64 3], .c [.sl none 0 0 0, .i .i64 1], .c (frs [frQ 3 false, frQ 5 false] ++ Y)], by show [_, _, Blk.c (subs _ _)] = _; simp only [hz]; rfl, ?_⟩
      conv => whnf
      refine ACall.frameH [1] [] rfl (args' := [.p (some (0, 0)), (frQ 1 false).av]) (Hc := [.c [.sl none 0 0 0, .i .i64 1]]) rfl rfl (qput_nil (frQ 1 false) (okF 1) 1 (by omega)) ?_
      rintro r H ⟨rfl, hh⟩
      obtain ⟨_, e, Z, he, hZ, hZl, rfl⟩ := hh.resolve_right (fun h0 => h0.1 (by decide))
      have hz2 : ∀ φ, subs φ (frs [frQ 1 false] ++ Z) = frs [frQ 1 false] ++ Z := (Pl.frs _).app hZ
      rw [show (frQ 1 false).chk = 0 from by kernel_rfl]
      refine ⟨.inl rfl, [.c [.sl (some (2, 0)) 12 2 c, .i .i64 3], .c [.sl (some (3, 0)) 12 1 e, .i .i64 1], .c (frs [frQ 3 false, frQ 5 false] ++ Y), .c (frs [frQ 1 false] ++ Z)], by show [_, _, _, Blk.c (subs _ _)] = _; simp only [hz2]; rfl, ?_⟩
      conv => whnf
      refine ACall.frameH [0, 2] [] rfl (args' := [.p (some (0, 0))]) (Hc := [.c [.sl (some (1, 0)) 12 2 c, .i .i64 3], .c (frs [frQ 3 false, frQ 5 false] ++ Y)]) rfl (by show [_, Blk.c (subs _ _)] = _; rw [hz]; rfl) (qall_spec [frQ 3 false, frQ 5 false] 3 c Y hY (by decide)) ?_
      rintro r H ⟨g, hg, rfl, rfl⟩
      refine ⟨.inl rfl, [.c [.sl (some (2, 0)) 12 2 c, .i .i64 3], .c [.sl (some (3, 0)) 12 1 e, .i .i64 1], .c (frs [frQ 3 false, frQ 5 false] ++ Y), .c (frs [frQ 1 false] ++ Z), .c (frs [frQ 3 false, frQ 5 false])], by show [_, _, Blk.c (subs _ _), _, Blk.c (subs _ _)] = _; simp only [hz, subs_frs]; rfl, ?_⟩
      conv => whnf
      refine ACall.frameH [] [4, 5] rfl (args' := [.rs (frs [frQ 3 false, frQ 5 false]) 0 12 2, .rs (frs [frQ 3 false, frQ 5 false]) 0 12 2]) (Hc := []) rfl rfl (same_spec [frQ 3 false, frQ 5 false] [frQ 3 false, frQ 5 false] (by decide)) ?_
      rintro r H ⟨rfl, rfl⟩
      rw [decide_eq_true rfl]
      refine ⟨.inr ⟨rfl, rfl⟩, [.c [.sl (some (2, 0)) 12 2 c, .i .i64 3], .c [.sl (some (3, 0)) 12 1 e, .i .i64 1], .c (frs [frQ 3 false, frQ 5 false] ++ Y), .c (frs [frQ 1 false] ++ Z), .c (frs [frQ 3 false, frQ 5 false]), .c (frs [frQ 3 false, frQ 5 false])], rfl, ?_⟩
      conv => whnf
      refine ACall.frameH [1, 3] [] rfl (args' := [.p (some (0, 0)), (frQ 0 false).av]) (Hc := [.c [.sl (some (1, 0)) 12 1 e, .i .i64 1], .c (frs [frQ 1 false] ++ Z)]) rfl (by show [_, Blk.c (subs _ _)] = _; rw [hz2]; rfl) (qput_spec [frQ 1 false] (by intro X hX; simp only [List.mem_cons, List.not_mem_nil, or_false] at hX; all_goals (first | (rcases hX with rfl | rfl | rfl <;> exact okF _) | (rcases hX with rfl | rfl <;> exact okF _) | (subst hX; exact okF _))) (frQ 0 false) (okF 0) 1 e Z he hZ hZl (by decide)) ?_
      rw [show putE [frQ 1 false] (frQ 0 false) 1 = 15 from by kernel_rfl]
      rintro r H ⟨rfl, ⟨h0, _⟩ | ⟨_, e, Z, _, _, _, rfl⟩⟩
      · cases h0
      refine ⟨.inl rfl, _, rfl, ?_⟩
      conv => whnf
      exact GhR.sel [] rfl (GhR.of ⟨rfl, rfl⟩)
    · have hz : ∀ φ, subs φ (frs [frQ 3 false, frQ 4 false, frQ 5 false] ++ Y) = frs [frQ 3 false, frQ 4 false, frQ 5 false] ++ Y := (Pl.frs _).app hY
      refine ⟨.inl rfl, [.c [.sl (some (3, 0)) 12 3 c, .i .i64 3], .c [.sl none 0 0 0, .i .i64 1], .dead, .c (frs [frQ 3 false, frQ 4 false, frQ 5 false] ++ Y)], by show [_, _, _, Blk.c (subs _ _)] = _; simp only [hz]; rfl, ?_⟩
      conv => whnf
      refine ACall.frameH [0, 3] [] rfl (args' := [.p (some (0, 0)), (frQ 4 false).av]) (Hc := [.c [.sl (some (1, 0)) 12 3 c, .i .i64 3], .c (frs [frQ 3 false, frQ 4 false, frQ 5 false] ++ Y)]) rfl (by show [_, Blk.c (subs _ _)] = _; rw [hz]; rfl) (qdrop_ok [frQ 3 false, frQ 4 false, frQ 5 false] (frQ 4 false) [frQ 3 false, frQ 5 false] 3 c Y hc hY hYl (by decide) (by kernel_rfl)) ?_
      clear hz
      rintro r H ⟨rfl, c, Y, hc, hY, hYl, rfl⟩
      have hz : ∀ φ, subs φ (frs [frQ 3 false, frQ 5 false] ++ Y) = frs [frQ 3 false, frQ 5 false] ++ Y := (Pl.frs _).app hY
      refine ⟨.inl rfl, [.c [.sl (some (3, 0)) 12 2 c, .i .i64 3], .c [.sl none 0 0 0, .i .i64 1], .dead, .c (frs [frQ 3 false, frQ 5 false] ++ Y)], by show [_, _, _, Blk.c (subs _ _)] = _; simp only [hz]; rfl, ?_⟩
      conv => whnf
      refine ACall.frameH [1] [] rfl (args' := [.p (some (0, 0)), (frQ 1 false).av]) (Hc := [.c [.sl none 0 0 0, .i .i64 1]]) rfl rfl (qput_nil (frQ 1 false) (okF 1) 1 (by omega)) ?_
      rintro r H ⟨rfl, hh⟩
      obtain ⟨_, e, Z, he, hZ, hZl, rfl⟩ := hh.resolve_right (fun h0 => h0.1 (by decide))
      have hz2 : ∀ φ, subs φ (frs [frQ 1 false] ++ Z) = frs [frQ 1 false] ++ Z := (Pl.frs _).app hZ
      rw [show (frQ 1 false).chk = 0 from by kernel_rfl]
      refine ⟨.inl rfl, [.c [.sl (some (3, 0)) 12 2 c, .i .i64 3], .c [.sl (some (4, 0)) 12 1 e, .i .i64 1], .dead, .c (frs [frQ 3 false, frQ 5 false] ++ Y), .c (frs [frQ 1 false] ++ Z)], by show [_, _, _, _, Blk.c (subs _ _)] = _; simp only [hz2]; rfl, ?_⟩
      conv => whnf
      refine ACall.frameH [0, 3] [] rfl (args' := [.p (some (0, 0))]) (Hc := [.c [.sl (some (1, 0)) 12 2 c, .i .i64 3], .c (frs [frQ 3 false, frQ 5 false] ++ Y)]) rfl (by show [_, Blk.c (subs _ _)] = _; rw [hz]; rfl) (qall_spec [frQ 3 false, frQ 5 false] 3 c Y hY (by decide)) ?_
      rintro r H ⟨g, hg, rfl, rfl⟩
      refine ⟨.inl rfl, [.c [.sl (some (3, 0)) 12 2 c, .i .i64 3], .c [.sl (some (4, 0)) 12 1 e, .i .i64 1], .dead, .c (frs [frQ 3 false, frQ 5 false] ++ Y), .c (frs [frQ 1 false] ++ Z), .c (frs [frQ 3 false, frQ 5 false])], by show [_, _, _, Blk.c (subs _ _), _, Blk.c (subs _ _)] = _; simp only [hz, subs_frs]; rfl, ?_⟩
      conv => whnf
      refine ACall.frameH [] [5, 6] rfl (args' := [.rs (frs [frQ 3 false, frQ 5 false]) 0 12 2, .rs (frs [frQ 3 false, frQ 5 false]) 0 12 2]) (Hc := []) rfl rfl (same_spec [frQ 3 false, frQ 5 false] [frQ 3 false, frQ 5 false] (by decide)) ?_
      rintro r H ⟨rfl, rfl⟩
      rw [decide_eq_true rfl]
      refine ⟨.inr ⟨rfl, rfl⟩, [.c [.sl (some (3, 0)) 12 2 c, .i .i64 3], .c [.sl (some (4, 0)) 12 1 e, .i .i64 1], .dead, .c (frs [frQ 3 false, frQ 5 false] ++ Y), .c (frs [frQ 1 false] ++ Z), .c (frs [frQ 3 false, frQ 5 false]), .c (frs [frQ 3 false, frQ 5 false])], rfl, ?_⟩
      conv => whnf
      refine ACall.frameH [1, 4] [] rfl (args' := [.p (some (0, 0)), (frQ 0 false).av]) (Hc := [.c [.sl (some (1, 0)) 12 1 e, .i .i64 1], .c (frs [frQ 1 false] ++ Z)]) rfl (by show [_, Blk.c (subs _ _)] = _; rw [hz2]; rfl) (qput_spec [frQ 1 false] (by intro X hX; simp only [List.mem_cons, List.not_mem_nil, or_false] at hX; all_goals (first | (rcases hX with rfl | rfl | rfl <;> exact okF _) | (rcases hX with rfl | rfl <;> exact okF _) | (subst hX; exact okF _))) (frQ 0 false) (okF 0) 1 e Z he hZ hZl (by decide)) ?_
      rw [show putE [frQ 1 false] (frQ 0 false) 1 = 15 from by kernel_rfl]
      rintro r H ⟨rfl, ⟨h0, _⟩ | ⟨_, e, Z, _, _, _, rfl⟩⟩
      · cases h0
      refine ⟨.inl rfl, _, rfl, ?_⟩
      conv => whnf
      exact GhR.sel [] rfl (GhR.of ⟨rfl, rfl⟩)
  · have hz : ∀ φ, subs φ (frs [frQ 3 false, frQ 5 false] ++ Y) = frs [frQ 3 false, frQ 5 false] ++ Y := (Pl.frs _).app hY
    refine ⟨.inl rfl, [.c [.sl (some (3, 0)) 12 2 c, .i .i64 3], .c [.sl none 0 0 0, .i .i64 1], .dead, .c (frs [frQ 3 false, frQ 5 false] ++ Y)], by show [_, _, _, Blk.c (subs _ _)] = _; simp only [hz]; rfl, ?_⟩
    conv => whnf
    refine ACall.frameH [0, 3] [] rfl (args' := [.p (some (0, 0)), (frQ 4 false).av]) (Hc := [.c [.sl (some (1, 0)) 12 2 c, .i .i64 3], .c (frs [frQ 3 false, frQ 5 false] ++ Y)]) rfl (by show [_, Blk.c (subs _ _)] = _; rw [hz]; rfl) (qput_ok [frQ 3 false, frQ 5 false] (frQ 4 false) [frQ 3 false, frQ 4 false, frQ 5 false] (by intro X hX; simp only [List.mem_cons, List.not_mem_nil, or_false] at hX; all_goals (first | (rcases hX with rfl | rfl | rfl <;> exact okF _) | (rcases hX with rfl | rfl <;> exact okF _) | (subst hX; exact okF _))) (okF 4) 3 c Y hc hY hYl (by kernel_rfl) (by kernel_rfl)) ?_
    clear hz
    rintro r H ⟨rfl, ⟨c, Y, hc, hY, hYl, rfl⟩ | ⟨c, Y, hc, hY, hYl, rfl⟩⟩
    · have hz : ∀ φ, subs φ (frs [frQ 3 false, frQ 4 false, frQ 5 false] ++ Y) = frs [frQ 3 false, frQ 4 false, frQ 5 false] ++ Y := (Pl.frs _).app hY
      refine ⟨.inl rfl, [.c [.sl (some (3, 0)) 12 3 c, .i .i64 3], .c [.sl none 0 0 0, .i .i64 1], .dead, .c (frs [frQ 3 false, frQ 4 false, frQ 5 false] ++ Y)], by show [_, _, _, Blk.c (subs _ _)] = _; simp only [hz]; rfl, ?_⟩
      conv => whnf
      refine ACall.frameH [0, 3] [] rfl (args' := [.p (some (0, 0)), (frQ 4 false).av]) (Hc := [.c [.sl (some (1, 0)) 12 3 c, .i .i64 3], .c (frs [frQ 3 false, frQ 4 false, frQ 5 false] ++ Y)]) rfl (by show [_, Blk.c (subs _ _)] = _; rw [hz]; rfl) (qdrop_ok [frQ 3 false, frQ 4 false, frQ 5 false] (frQ 4 false) [frQ 3 false, frQ 5 false] 3 c Y hc hY hYl (by decide) (by kernel_rfl)) ?_
      clear hz
      rintro r H ⟨rfl, c, Y, hc, hY, hYl, rfl⟩
      have hz : ∀ φ, subs φ (frs [frQ 3 false, frQ 5 false] ++ Y) = frs [frQ 3 false, frQ 5 false] ++ Y := (Pl.frs _).app hY
      refine ⟨.inl rfl, [.c [.sl (some (3, 0)) 12 2 c, .i .i64 3], .c [.sl none 0 0 0, .i .i64 1], .dead, .c (frs [frQ 3 false, frQ 5 false] ++ Y)], by show [_, _, _, Blk.c (subs _ _)] = _; simp only [hz]; rfl, ?_⟩
      conv => whnf
      refine ACall.frameH [1] [] rfl (args' := [.p (some (0, 0)), (frQ 1 false).av]) (Hc := [.c [.sl none 0 0 0, .i .i64 1]]) rfl rfl (qput_nil (frQ 1 false) (okF 1) 1 (by omega)) ?_
      rintro r H ⟨rfl, hh⟩
      obtain ⟨_, e, Z, he, hZ, hZl, rfl⟩ := hh.resolve_right (fun h0 => h0.1 (by decide))
      have hz2 : ∀ φ, subs φ (frs [frQ 1 false] ++ Z) = frs [frQ 1 false] ++ Z := (Pl.frs _).app hZ
      rw [show (frQ 1 false).chk = 0 from by kernel_rfl]
      refine ⟨.inl rfl, [.c [.sl (some (3, 0)) 12 2 c, .i .i64 3], .c [.sl (some (4, 0)) 12 1 e, .i .i64 1], .dead, .c (frs [frQ 3 false, frQ 5 false] ++ Y), .c (frs [frQ 1 false] ++ Z)], by show [_, _, _, _, Blk.c (subs _ _)] = _; simp only [hz2]; rfl, ?_⟩
      conv => whnf
      refine ACall.frameH [0, 3] [] rfl (args' := [.p (some (0, 0))]) (Hc := [.c [.sl (some (1, 0)) 12 2 c, .i .i64 3], .c (frs [frQ 3 false, frQ 5 false] ++ Y)]) rfl (by show [_, Blk.c (subs _ _)] = _; rw [hz]; rfl) (qall_spec [frQ 3 false, frQ 5 false] 3 c Y hY (by decide)) ?_
      rintro r H ⟨g, hg, rfl, rfl⟩
      refine ⟨.inl rfl, [.c [.sl (some (3, 0)) 12 2 c, .i .i64 3], .c [.sl (some (4, 0)) 12 1 e, .i .i64 1], .dead, .c (frs [frQ 3 false, frQ 5 false] ++ Y), .c (frs [frQ 1 false] ++ Z), .c (frs [frQ 3 false, frQ 5 false])], by show [_, _, _, Blk.c (subs _ _), _, Blk.c (subs _ _)] = _; simp only [hz, subs_frs]; rfl, ?_⟩
      conv => whnf
      refine ACall.frameH [] [5, 6] rfl (args' := [.rs (frs [frQ 3 false, frQ 5 false]) 0 12 2, .rs (frs [frQ 3 false, frQ 5 false]) 0 12 2]) (Hc := []) rfl rfl (same_spec [frQ 3 false, frQ 5 false] [frQ 3 false, frQ 5 false] (by decide)) ?_
      rintro r H ⟨rfl, rfl⟩
      rw [decide_eq_true rfl]
      refine ⟨.inr ⟨rfl, rfl⟩, [.c [.sl (some (3, 0)) 12 2 c, .i .i64 3], .c [.sl (some (4, 0)) 12 1 e, .i .i64 1], .dead, .c (frs [frQ 3 false, frQ 5 false] ++ Y), .c (frs [frQ 1 false] ++ Z), .c (frs [frQ 3 false, frQ 5 false]), .c (frs [frQ 3 false, frQ 5 false])], rfl, ?_⟩
      conv => whnf
      refine ACall.frameH [1, 4] [] rfl (args' := [.p (some (0, 0)), (frQ 0 false).av]) (Hc := [.c [.sl (some (1, 0)) 12 1 e, .i .i64 1], .c (frs [frQ 1 false] ++ Z)]) rfl (by show [_, Blk.c (subs _ _)] = _; rw [hz2]; rfl) (qput_spec [frQ 1 false] (by intro X hX; simp only [List.mem_cons, List.not_mem_nil, or_false] at hX; all_goals (first | (rcases hX with rfl | rfl | rfl <;> exact okF _) | (rcases hX with rfl | rfl <;> exact okF _) | (subst hX; exact okF _))) (frQ 0 false) (okF 0) 1 e Z he hZ hZl (by decide)) ?_
      rw [show putE [frQ 1 false] (frQ 0 false) 1 = 15 from by kernel_rfl]
      rintro r H ⟨rfl, ⟨h0, _⟩ | ⟨_, e, Z, _, _, _, rfl⟩⟩
      · cases h0
      refine ⟨.inl rfl, _, rfl, ?_⟩
      conv => whnf
      exact GhR.sel [] rfl (GhR.of ⟨rfl, rfl⟩)
    · have hz : ∀ φ, subs φ (frs [frQ 3 false, frQ 4 false, frQ 5 false] ++ Y) = frs [frQ 3 false, frQ 4 false, frQ 5 false] ++ Y := (Pl.frs _).app hY
      refine ⟨.inl rfl, [.c [.sl (some (4, 0)) 12 3 c, .i .i64 3], .c [.sl none 0 0 0, .i .i64 1], .dead, .dead, .c (frs [frQ 3 false, frQ 4 false, frQ 5 false] ++ Y)], by show [_, _, _, _, Blk.c (subs _ _)] = _; simp only [hz]; rfl, ?_⟩
      conv => whnf
      refine ACall.frameH [0, 4] [] rfl (args' := [.p (some (0, 0)), (frQ 4 false).av]) (Hc := [.c [.sl (some (1, 0)) 12 3 c, .i .i64 3], .c (frs [frQ 3 false, frQ 4 false, frQ 5 false] ++ Y)]) rfl (by show [_, Blk.c (subs _ _)] = _; rw [hz]; rfl) (qdrop_ok [frQ 3 false, frQ 4 false, frQ 5 false] (frQ 4 false) [frQ 3 false, frQ 5 false] 3 c Y hc hY hYl (by decide) (by kernel_rfl)) ?_
      clear hz
      rintro r H ⟨rfl, c, Y, hc, hY, hYl, rfl⟩
      have hz : ∀ φ, subs φ (frs [frQ 3 false, frQ 5 false] ++ Y) = frs [frQ 3 false, frQ 5 false] ++ Y := (Pl.frs _).app hY
      refine ⟨.inl rfl, [.c [.sl (some (4, 0)) 12 2 c, .i .i64 3], .c [.sl none 0 0 0, .i .i64 1], .dead, .dead, .c (frs [frQ 3 false, frQ 5 false] ++ Y)], by show [_, _, _, _, Blk.c (subs _ _)] = _; simp only [hz]; rfl, ?_⟩
      conv => whnf
      refine ACall.frameH [1] [] rfl (args' := [.p (some (0, 0)), (frQ 1 false).av]) (Hc := [.c [.sl none 0 0 0, .i .i64 1]]) rfl rfl (qput_nil (frQ 1 false) (okF 1) 1 (by omega)) ?_
      rintro r H ⟨rfl, hh⟩
      obtain ⟨_, e, Z, he, hZ, hZl, rfl⟩ := hh.resolve_right (fun h0 => h0.1 (by decide))
      have hz2 : ∀ φ, subs φ (frs [frQ 1 false] ++ Z) = frs [frQ 1 false] ++ Z := (Pl.frs _).app hZ
      rw [show (frQ 1 false).chk = 0 from by kernel_rfl]
      refine ⟨.inl rfl, [.c [.sl (some (4, 0)) 12 2 c, .i .i64 3], .c [.sl (some (5, 0)) 12 1 e, .i .i64 1], .dead, .dead, .c (frs [frQ 3 false, frQ 5 false] ++ Y), .c (frs [frQ 1 false] ++ Z)], by show [_, _, _, _, _, Blk.c (subs _ _)] = _; simp only [hz2]; rfl, ?_⟩
      conv => whnf
      refine ACall.frameH [0, 4] [] rfl (args' := [.p (some (0, 0))]) (Hc := [.c [.sl (some (1, 0)) 12 2 c, .i .i64 3], .c (frs [frQ 3 false, frQ 5 false] ++ Y)]) rfl (by show [_, Blk.c (subs _ _)] = _; rw [hz]; rfl) (qall_spec [frQ 3 false, frQ 5 false] 3 c Y hY (by decide)) ?_
      rintro r H ⟨g, hg, rfl, rfl⟩
      refine ⟨.inl rfl, [.c [.sl (some (4, 0)) 12 2 c, .i .i64 3], .c [.sl (some (5, 0)) 12 1 e, .i .i64 1], .dead, .dead, .c (frs [frQ 3 false, frQ 5 false] ++ Y), .c (frs [frQ 1 false] ++ Z), .c (frs [frQ 3 false, frQ 5 false])], by show [_, _, _, _, Blk.c (subs _ _), _, Blk.c (subs _ _)] = _; simp only [hz, subs_frs]; rfl, ?_⟩
      conv => whnf
      refine ACall.frameH [] [6, 7] rfl (args' := [.rs (frs [frQ 3 false, frQ 5 false]) 0 12 2, .rs (frs [frQ 3 false, frQ 5 false]) 0 12 2]) (Hc := []) rfl rfl (same_spec [frQ 3 false, frQ 5 false] [frQ 3 false, frQ 5 false] (by decide)) ?_
      rintro r H ⟨rfl, rfl⟩
      rw [decide_eq_true rfl]
      refine ⟨.inr ⟨rfl, rfl⟩, [.c [.sl (some (4, 0)) 12 2 c, .i .i64 3], .c [.sl (some (5, 0)) 12 1 e, .i .i64 1], .dead, .dead, .c (frs [frQ 3 false, frQ 5 false] ++ Y), .c (frs [frQ 1 false] ++ Z), .c (frs [frQ 3 false, frQ 5 false]), .c (frs [frQ 3 false, frQ 5 false])], rfl, ?_⟩
      conv => whnf
      refine ACall.frameH [1, 5] [] rfl (args' := [.p (some (0, 0)), (frQ 0 false).av]) (Hc := [.c [.sl (some (1, 0)) 12 1 e, .i .i64 1], .c (frs [frQ 1 false] ++ Z)]) rfl (by show [_, Blk.c (subs _ _)] = _; rw [hz2]; rfl) (qput_spec [frQ 1 false] (by intro X hX; simp only [List.mem_cons, List.not_mem_nil, or_false] at hX; all_goals (first | (rcases hX with rfl | rfl | rfl <;> exact okF _) | (rcases hX with rfl | rfl <;> exact okF _) | (subst hX; exact okF _))) (frQ 0 false) (okF 0) 1 e Z he hZ hZl (by decide)) ?_
      rw [show putE [frQ 1 false] (frQ 0 false) 1 = 15 from by kernel_rfl]
      rintro r H ⟨rfl, ⟨h0, _⟩ | ⟨_, e, Z, _, _, _, rfl⟩⟩
      · cases h0
      refine ⟨.inl rfl, _, rfl, ?_⟩
      conv => whnf
      exact GhR.sel [] rfl (GhR.of ⟨rfl, rfl⟩)
end Go.AK
namespace Go.AK
open Go Go.RowKit Go.Proofs
set_option linter.unusedVariables false
set_option maxRecDepth 100000
theorem okT_acts : ∀ fuel, okT T fuel 22 = true
  | 0 => rfl
  | 1 => rfl
  | 2 => rfl
  | 3 => rfl
  | 4 => rfl
  | n + 5 => rfl
theorem WT_act : ∀ {fuel : Nat} {xs : List AV}, WT T fuel 33 xs → ∃ a : Bool × Fr, xs = .b a.1 :: a.2.cells ∧ a.2.ok
  | 0, _, h => h.elim
  | 1, xs, h => by
    obtain ⟨ys, zs, _, h1, _⟩ := (show WTs (WT T 0) [4, 25] xs from h)
    exact h1.elim
  | n + 2, xs, h => by
    obtain ⟨y0, z0, rfl, h0, h⟩ := (show WTs (WT T (n + 1)) [4, 25] xs from h)
    obtain ⟨y1, z1, rfl, h1, h⟩ := h
    obtain rfl := (show z1 = [] from h)
    obtain ⟨d, rfl⟩ := (show ∃ b, y0 = [.b b] from h0)
    obtain ⟨F, rfl, hF⟩ := WT_frame h1
    exact ⟨(d, F), rfl, hF⟩
theorem WTs_acts {n : Nat} : ∀ (m : Nat) (cs : List AV), WTs (WT T n) (List.replicate m 33) cs → ∃ L : List (Bool × Fr), cs = acs L ∧ L.length = m ∧ ∀ a ∈ L, a.2.ok
  | 0, cs, hc => ⟨[], (show cs = [] from hc), rfl, fun x hx => by cases hx⟩
  | m + 1, cs, hc => by
    rw [List.replicate_succ] at hc
    obtain ⟨ys, zs, rfl, h1, h2⟩ := hc
    obtain ⟨a, rfl, ha⟩ := WT_act h1
    obtain ⟨L, rfl, hl, hL⟩ := WTs_acts m zs h2
    refine ⟨a :: L, rfl, by simp [hl], fun y hy => ?_⟩
    rcases List.mem_cons.1 hy with rfl | hy
    · exact ha
    · exact hL y hy
theorem WT_acts : ∀ {fuel : Nat} {xs : List AV}, WT T fuel 22 xs → ∃ l : List (Bool × Fr), xs = [.rs (acs l) 0 13 l.length] ∧ l.length ≤ maxLen ∧ ∀ a ∈ l, a.2.ok
  | 0, _, h => h.elim
  | n + 1, xs, h => by
    obtain ⟨m, cs, hx, hm, hc⟩ := (show ∃ m cs, xs = [AV.rs cs 0 13 m] ∧ m ≤ maxLen ∧ WTs (WT T n) (List.replicate m 33) cs from h)
    obtain ⟨L, hL, hl, hw⟩ := WTs_acts m cs hc
    subst hL
    exact ⟨L, by rw [hx, hl], by omega, hw⟩
end Go.AK
namespace Go.AK
open Go Go.RowKit Go.Proofs
set_option linter.unusedVariables false
theorem fnd_lt {l : List Fr} {F : Fr} (h : F ∈ l) : fndF l F < l.length := by
  unfold fndF
  exact List.findIdx_lt_length_of_exists ⟨F, h, by simp⟩
theorem fnd_at {l : List Fr} {F : Fr} (h : fndF l F < l.length) : l[fndF l F] = F := by
  have := List.findIdx_getElem (w := h)
  simp only [decide_eq_true_eq] at this
  exact this.symm
theorem drop_erase (l : List Fr) (F : Fr) : dropL l F = l.erase F := by
  unfold dropL fndF
  induction l with
  | nil => rfl
  | cons G l ih =>
    rw [List.findIdx_cons, List.erase_cons]
    by_cases e : G = F
    · subst e; simp
    · have e2 : ¬ F = G := fun h => e h.symm
      simp [e, e2, ih]
def others (l : List Fr) (F : Fr) : List Fr := l.filter fun G => decide (¬ G = F)
theorem others_app (A B : List Fr) (F : Fr) : others (A ++ B) F = others A F ++ others B F := List.filter_append ..
theorem others_put (l : List Fr) (F : Fr) : others (putL l F) F = others l F := by
  unfold putL insF
  rw [others_app]
  have : others (F :: l.drop (posF l F)) F = others (l.drop (posF l F)) F := by unfold others; simp
  rw [this, ← others_app, List.take_append_drop]
theorem others_drop (l : List Fr) (F : Fr) : others (dropL l F) F = others l F := by
  rw [drop_erase]
  induction l with
  | nil => rfl
  | cons G l ih =>
    rw [List.erase_cons]
    by_cases e : G = F
    · subst e; simp [others]
    · simp only [beq_iff_eq, e, if_false]
      unfold others at ih ⊢
      rw [List.filter_cons, List.filter_cons, ih]
theorem count_put (l : List Fr) (F : Fr) : (putL l F).count F = l.count F + 1 := by
  unfold putL insF
  rw [List.count_append, List.count_cons_self, ← Nat.add_assoc, ← List.count_append, List.take_append_drop]
theorem count_drop {l : List Fr} {F : Fr} : (dropL l F).count F = l.count F - 1 := by
  rw [drop_erase, List.count_erase_self]
theorem others_none {l : List Fr} {F : Fr} (h : l.count F = 0) : others l F = l := by
  unfold others
  refine List.filter_eq_self.2 fun G hG => ?_
  have := List.count_eq_zero.1 h
  simp
  rintro rfl
  exact this hG
theorem drop_sub {l : List Fr} {F G : Fr} (h : G ∈ dropL l F) : G ∈ l := by rw [drop_erase] at h; exact List.mem_of_mem_erase h
theorem put_sub {l : List Fr} {F G : Fr} (h : G ∈ putL l F) : G = F ∨ G ∈ l := by
  unfold putL insF at h
  rcases List.mem_append.1 h with h | h
  · exact .inr (List.mem_of_mem_take h)
  · rcases List.mem_cons.1 h with h | h
    · exact .inl h
    · exact .inr (List.mem_of_mem_drop h)
theorem act_ok {l : List Fr} {a : Bool × Fr} {most : Int} (hl : ∀ F ∈ l, F.ok) (ha : a.2.ok) : ∀ F ∈ actL l most a, F.ok := fun F hF => by
  unfold actL at hF
  split at hF
  · split at hF
    · exact hl F (drop_sub hF)
    · exact hl F hF
  · split at hF
    · rcases put_sub hF with rfl | h
      · exact ha
      · exact hl F h
    · exact hl F hF
theorem act_len {l : List Fr} {a : Bool × Fr} {most : Int} (hl : (l.length : Int) ≤ most) : ((actL l most a).length : Int) ≤ most := by
  unfold actL
  split
  · split
    · have : (dropL l a.2).length ≤ l.length := by rw [drop_erase]; exact List.length_erase_le
      omega
    · exact hl
  · split
    · rename_i h
      unfold putE at h
      split at h
      · split at h
        · omega
        · rw [putL_length]; omega
      · omega
    · exact hl
theorem cut_frs (l : List Fr) (a n : Nat) : List.take (n * 12) (List.drop (0 + a * 12) (frs l)) = frs ((l.drop a).take n) := by
  rw [Nat.zero_add, frs_drop, frs_take]
/-- Where the first one stands, as far as it was looked. -/
def atI (l : List Fr) (f : Fr) (k : Nat) : Int := if f ∈ l.take k then (fndF l f : Nat) else -1
theorem atI_in {l : List Fr} {f : Fr} {k : Nat} (h : f ∈ l.take k) : atI l f k = (fndF l f : Nat) := if_pos h
theorem atI_out {l : List Fr} {f : Fr} {k : Nat} (h : ¬ f ∈ l.take k) : atI l f k = -1 := if_neg h
theorem mem_take_next {l : List Fr} {f : Fr} {k : Nat} (hk : k < l.length) : f ∈ l.take (k + 1) ↔ f ∈ l.take k ∨ l[k] = f := by
  rw [List.take_add_one, List.getElem?_eq_getElem hk, List.mem_append]
  simp [eq_comm]
theorem atI_stay {l : List Fr} {f : Fr} {k : Nat} (h : f ∈ l.take k) : atI l f (k + 1) = atI l f k := by
  have h2 : f ∈ l.take (k + 1) := by rw [List.take_add_one]; exact List.mem_append_left _ h
  rw [atI_in h, atI_in h2]
theorem atI_same {l : List Fr} {f : Fr} {k : Nat} (hk : k < l.length) (e : ¬ l[k] = f) : atI l f (k + 1) = atI l f k := by
  unfold atI
  by_cases h : f ∈ l.take k
  · rw [if_pos h, if_pos ((mem_take_next hk).2 (.inl h))]
  · rw [if_neg h, if_neg (fun h2 => ((mem_take_next hk).1 h2).elim h e)]
theorem atI_new {l : List Fr} {f : Fr} {k : Nat} (hk : k < l.length) (e : l[k] = f) (h : ¬ f ∈ l.take k) : atI l f (k + 1) = (k : Nat) := by
  rw [atI_in ((mem_take_next hk).2 (.inr e))]
  have : fndF l f = k := by
    unfold fndF
    refine (List.findIdx_eq hk).2 ⟨by simp [e], fun j hj => ?_⟩
    have hn : ¬ f = l[j] := fun e2 => h (by
      rw [e2, show l[j] = (l.take k)[j]'(by rw [List.length_take]; omega) from (List.getElem_take ..).symm]
      exact List.getElem_mem _)
    simp [hn]
  rw [this]
theorem count_take_in {l : List Fr} {f : Fr} {k : Nat} (hk : k < l.length) (e : l[k] = f) : (l.take (k + 1)).count f = (l.take k).count f + 1 := by
  rw [List.take_add_one, List.getElem?_eq_getElem hk, List.count_append]
  simp [e]
theorem count_take_out {l : List Fr} {f : Fr} {k : Nat} (hk : k < l.length) (e : ¬ l[k] = f) : (l.take (k + 1)).count f = (l.take k).count f := by
  rw [List.take_add_one, List.getElem?_eq_getElem hk, List.count_append]
  simp [e]
/-- The acts, one behind the other. -/
def actsL (most : Int) : List (Bool × Fr) → List Fr → List Fr
  | [], l => l
  | a :: A, l => actsL most A (actL l most a)
end Go.AK
namespace Go.AK
open Go Go.RowKit Go.Proofs
set_option linter.unusedVariables false
theorem cmpI_neg {a b : Int} : cmpI a b < 0 ↔ a < b := by
  unfold cmpI
  split
  · omega
  · split <;> omega
theorem cmpI_zero' {a b : Int} : cmpI a b = 0 ↔ a = b := by
  unfold cmpI
  split
  · omega
  · split <;> omega
theorem cmpL_cons {a b : Int} {L M : List Int} : cmpL (a :: L) (b :: M) < 0 ↔ a < b ∨ (a = b ∧ cmpL L M < 0) := by
  rw [show cmpL (a :: L) (b :: M) = if cmpI a b = 0 then cmpL L M else cmpI a b from rfl]
  split
  · rename_i h
    have := cmpI_zero'.1 h
    constructor
    · intro h2; exact .inr ⟨this, h2⟩
    · rintro (h2 | ⟨_, h2⟩)
      · omega
      · exact h2
  · rename_i h
    rw [cmpI_neg]
    constructor
    · exact .inl
    · rintro (h2 | ⟨h2, _⟩)
      · exact h2
      · exact absurd (cmpI_zero'.2 h2) h
theorem cmpL_trans : ∀ {L M N : List Int}, cmpL L M < 0 → cmpL M N < 0 → cmpL L N < 0
  | [], [], _, h, _ => by simp [cmpL] at h
  | [], _ :: _, [], _, h => by simp [cmpL] at h
  | [], _ :: _, _ :: _, _, _ => by simp [cmpL]
  | _ :: _, [], _, h, _ => by simp [cmpL] at h
  | _ :: _, _ :: _, [], _, h => by simp [cmpL] at h
  | a :: L, b :: M, c :: N, h, k => by
    rw [cmpL_cons] at h k ⊢
    rcases h with h | ⟨rfl, h⟩ <;> rcases k with k | ⟨rfl, k⟩
    · exact .inl (by omega)
    · exact .inl h
    · exact .inl k
    · exact .inr ⟨rfl, cmpL_trans h k⟩
theorem less_trans {F G H : Fr} (h : F.less G = true) (k : G.less H = true) : F.less H = true := by
  unfold Fr.less frcmp at *
  simp only [Bool.and_eq_true, decide_eq_true_eq] at *
  exact ⟨⟨h.1.1, k.1.2⟩, cmpL_trans h.2 k.2⟩
/-- Of frames in order none comes ahead of the one ahead. -/
def Srt (l : List Fr) : Prop := l.Pairwise fun G H => H.less G = false
theorem Srt.put {l : List Fr} (h : Srt l) (F : Fr) : Srt (putL l F) := by
  unfold Srt putL insF at *
  rw [← List.take_append_drop (posF l F) l] at h
  have h1 := List.pairwise_append.1 h
  refine List.pairwise_append.2 ⟨h1.1, List.pairwise_cons.2 ⟨fun G hG => ?_, h1.2.1⟩, fun G hG K hK => ?_⟩
  · obtain ⟨j, hj, rfl⟩ := List.mem_iff_getElem.1 hG
    rw [List.length_drop] at hj
    have hp : posF l F < l.length := by omega
    have hf : F.less l[posF l F] = true := List.findIdx_getElem (w := hp)
    cases hc : (l.drop (posF l F))[j].less F with
    | false => rfl
    | true =>
      exfalso
      have ht := less_trans hc hf
      by_cases e : j = 0
      · subst e
        have e0 : (l.drop (posF l F))[0] = l[posF l F] := by rw [List.getElem_drop]; rfl
        rw [e0] at ht
        have hself : ∀ X : Fr, X.less X = false := fun X => by
          cases hx : X.less X with
          | false => rfl
          | true =>
            unfold Fr.less frcmp at hx
            simp only [Bool.and_eq_true, decide_eq_true_eq] at hx
            have : ∀ L : List Int, ¬ cmpL L L < 0 := by
              intro L
              induction L with
              | nil => simp [cmpL]
              | cons a L ih => rw [cmpL_cons]; rintro (h | ⟨_, h⟩); omega; exact ih h
            exact absurd hx.2 (this _)
        rw [hself] at ht; cases ht
      · have := List.pairwise_iff_getElem.1 h1.2.1 0 j (by rw [List.length_drop]; omega) (by rw [List.length_drop]; omega) (by omega)
        have e0 : (l.drop (posF l F))[0]'(by rw [List.length_drop]; omega) = l[posF l F] := by rw [List.getElem_drop]; rfl
        rw [e0, ht] at this; cases this
  · rcases List.mem_cons.1 hK with rfl | hK
    · obtain ⟨j, hj, rfl⟩ := List.mem_iff_getElem.1 hG
      rw [List.length_take] at hj
      rw [List.getElem_take]
      have := List.not_of_lt_findIdx (p := fun G => K.less G) (xs := l) (i := j) (by unfold posF at hj; omega)
      simpa using this
    · exact h1.2.2 G hG K hK
theorem Srt.drop {l : List Fr} (h : Srt l) (F : Fr) : Srt (dropL l F) := by
  rw [drop_erase]
  exact List.Pairwise.sublist List.erase_sublist h
theorem Srt.act {l : List Fr} {a : Bool × Fr} {most : Int} (h : Srt l) : Srt (actL l most a) := by
  unfold actL
  split
  · split
    · exact h.drop _
    · exact h
  · split
    · exact h.put _
    · exact h
theorem drop_head (F : Fr) (l : List Fr) : dropL (F :: l) F = l := by rw [drop_erase]; simp
end Go.AK
namespace Go.AK
open Go Go.RowKit Go.Proofs
set_option linter.unusedVariables false
set_option maxRecDepth 100000
theorem frQ_may (n : Nat) (h : n < 2048) : (frQ n false).may := by
  refine ⟨by show (0 : Int) ≤ n; omega, by show (n : Int) ≤ 2047; omega, by show (0 : Int) ≤ 0; omega, by show (0 : Int) ≤ 8; omega, fun x hx => ?_⟩
  have : x ∈ List.replicate 8 (0 : Int) := List.mem_of_mem_drop hx
  exact (List.mem_replicate.1 this).2
set_option maxHeartbeats 1000000 in
theorem lawDrains (most : Int) (hmost : -9223372036854775808 ≤ most ∧ most ≤ 9223372036854775807) (A : List (Bool × Fr)) (hA : ∀ a ∈ A, a.2.ok) : ACall Try.prog 5 [.i .i64 most, .rs (acs A) 0 13 A.length] [] fun r H => r = .ret (.b true) ∧ H = [] := by
  refine ACall.gh ?_
  refine ACall.enter tok false Try.func5 rfl rfl rfl (AW_sound (ip := false) tok _ _ _ _ ?_)
  conv => whnf
  by_cases hg : (A.length : Int) > 60 ∨ most < 1 ∨ most > 16
  · by_cases g1 : (A.length : Int) > 60
    · repeat (refine acond_t (decide_eq_true g1) ?_; conv => whnf)
      refine ACall.frameH [] [] rfl (args' := []) (Hc := []) rfl rfl awake9_spec ?_
      rintro r H ⟨rfl, rfl⟩
      refine ⟨.inl rfl, _, rfl, ?_⟩
      conv => whnf
      exact GhR.sel [] rfl (GhR.of ⟨rfl, rfl⟩)
    · by_cases g2 : most < 1
      · repeat (first | (refine acond_f (decide_eq_false g1) ?_; conv => whnf) | (refine acond_t (decide_eq_true g2) ?_; conv => whnf))
        refine ACall.frameH [] [] rfl (args' := []) (Hc := []) rfl rfl awake9_spec ?_
        rintro r H ⟨rfl, rfl⟩
        refine ⟨.inl rfl, _, rfl, ?_⟩
        conv => whnf
        exact GhR.sel [] rfl (GhR.of ⟨rfl, rfl⟩)
      · have g3 : most > 16 := by omega
        repeat (first | (refine acond_f (decide_eq_false g1) ?_; conv => whnf) | (refine acond_f (decide_eq_false g2) ?_; conv => whnf) | (refine acond_t (decide_eq_true g3) ?_; conv => whnf))
        refine ACall.frameH [] [] rfl (args' := []) (Hc := []) rfl rfl awake9_spec ?_
        rintro r H ⟨rfl, rfl⟩
        refine ⟨.inl rfl, _, rfl, ?_⟩
        conv => whnf
        exact GhR.sel [] rfl (GhR.of ⟨rfl, rfl⟩)
  · have g1 : ¬ (A.length : Int) > 60 := fun h => hg (.inl h)
    have g2 : ¬ most < 1 := fun h => hg (.inr (.inl h))
    have g3 : ¬ most > 16 := fun h => hg (.inr (.inr h))
    repeat (first | (refine acond_f (decide_eq_false g1) ?_; conv => whnf) | (refine acond_f (decide_eq_false g2) ?_; conv => whnf) | (refine acond_f (decide_eq_false g3) ?_; conv => whnf))
    refine ACall.frameH [] [] rfl (args' := [.i .i64 most]) (Hc := []) rfl rfl (qnew_spec most) ?_
    rintro r H (⟨h, _⟩ | ⟨_, _, rfl, rfl⟩)
    · exact absurd (.inr h) hg
    refine ⟨.inl rfl, [.c [.sl none 0 0 0, .i .i64 most]], rfl, ?_⟩
    conv => whnf
    refine ALoop.ind (ip := false) tok (fun m r H => ∃ (i : Nat) (l : List Fr), i ≤ A.length ∧ m = A.length - i ∧ (l.length : Int) ≤ most ∧ (∀ F ∈ l, F.ok) ∧ Srt l ∧
      ((l = [] ∧ H = [.c [.sl none 0 0 0, .i .i64 most]]) ∨ ∃ c Y, l.length ≤ c ∧ Pl Y ∧ Y.length = (c - l.length) * 12 ∧ H = [.c [.sl (some (1, 0)) 12 l.length c, .i .i64 most], .c (frs l ++ Y)]) ∧
      r = [(7, .i .i64 i), (5, .p (some (0, 0))), (4, .b false), (1, .rs (acs A) 0 13 A.length), (0, .i .i64 most)]) A.length ?_ ?_
    · exact Gh.regs [7, 5, 4, 1, 0] (Gh.of ⟨0, [], by omega, by omega, by simp; omega, (fun F h => by cases h), List.Pairwise.nil, .inl ⟨rfl, rfl⟩, rfl⟩)
    · rintro m r H ⟨i, l, hi, rfl, hl16, hok, hsr, hst, rfl⟩
      by_cases h1 : (i : Int) < A.length
      · have hil : i < A.length := by omega
        have ha := hA _ (List.getElem_mem hil)
        have hok2 := act_ok (most := most) hok ha
        have hln2 := act_len (a := A[i]) (most := most) (l := l) hl16
        have hsr2 := hsr.act (a := A[i]) (most := most)
        rcases hst with ⟨rfl, rfl⟩ | ⟨c, Y, hc, hY, hYl, rfl⟩
        · conv => whnf
          refine acond_t (decide_eq_true h1) ?_
          conv => whnf
          refine ⟨⟨by omega, h1⟩, ?_⟩
          conv => whnf
          refine aget_act (k := i) (by omega) hil ?_
          conv => whnf
          refine ACall.frameH [0] [] rfl (args' := [.p (some (0, 0)), actAV A[i]]) (Hc := [.c [.sl none 0 0 0, .i .i64 most]]) rfl rfl (does_nil A[i] ha most (by omega)) ?_
          rintro r H ⟨rfl, ⟨hn, rfl⟩ | ⟨c, Y, hc, hY, hYl, rfl⟩⟩
          · refine ⟨.inl rfl, [.c [.sl none 0 0 0, .i .i64 most]], rfl, ?_⟩
            conv => whnf
            refine Gh.regs [7, 5, 4, 1, 0] (Gh.of ⟨A.length - (i + 1), by omega, i + 1, [], by omega, rfl, by simp; omega, (fun F h => by cases h), List.Pairwise.nil, .inl ⟨rfl, rfl⟩, ?_⟩)
            rw [w64 (by omega) (by omega)]; rfl
          · have hz : ∀ φ, subs φ (frs (actL [] most A[i]) ++ Y) = frs (actL [] most A[i]) ++ Y := (Pl.frs _).app hY
            refine ⟨.inl rfl, [.c [.sl (some (1, 0)) 12 (actL [] most A[i]).length c, .i .i64 most], .c (frs (actL [] most A[i]) ++ Y)], by show [_, Blk.c (subs _ _)] = _; simp only [hz]; rfl, ?_⟩
            conv => whnf
            refine Gh.regs [7, 5, 4, 1, 0] (Gh.of ⟨A.length - (i + 1), by omega, i + 1, actL [] most A[i], by omega, rfl, hln2, hok2, hsr2, .inr ⟨c, Y, hc, hY, hYl, rfl⟩, ?_⟩)
            rw [w64 (by omega) (by omega)]; rfl
        · conv => whnf
          refine acond_t (decide_eq_true h1) ?_
          conv => whnf
          refine ⟨⟨by omega, h1⟩, ?_⟩
          conv => whnf
          refine aget_act (k := i) (by omega) hil ?_
          conv => whnf
          have hz0 : ∀ φ, subs φ (frs l ++ Y) = frs l ++ Y := (Pl.frs _).app hY
          refine ACall.frameH [0, 1] [] rfl (args' := [.p (some (0, 0)), actAV A[i]]) (Hc := [.c [.sl (some (1, 0)) 12 l.length c, .i .i64 most], .c (frs l ++ Y)]) rfl (by show [_, Blk.c (subs _ _)] = _; simp only [hz0]; rfl) (does_spec l hok A[i] ha most c Y hc hY hYl (by omega)) ?_
          clear hz0
          rintro r H ⟨rfl, ⟨c, Y, hc, hY, hYl, rfl⟩ | ⟨c, Y, hc, hY, hYl, rfl⟩⟩
          · have hz : ∀ φ, subs φ (frs (actL l most A[i]) ++ Y) = frs (actL l most A[i]) ++ Y := (Pl.frs _).app hY
            refine ⟨.inl rfl, [.c [.sl (some (1, 0)) 12 (actL l most A[i]).length c, .i .i64 most], .c (frs (actL l most A[i]) ++ Y)], by show [_, Blk.c (subs _ _)] = _; simp only [hz]; rfl, ?_⟩
            conv => whnf
            refine Gh.regs [7, 5, 4, 1, 0] (Gh.of ⟨A.length - (i + 1), by omega, i + 1, actL l most A[i], by omega, rfl, hln2, hok2, hsr2, .inr ⟨c, Y, hc, hY, hYl, rfl⟩, ?_⟩)
            rw [w64 (by omega) (by omega)]; rfl
          · have hz : ∀ φ, subs φ (frs (actL l most A[i]) ++ Y) = frs (actL l most A[i]) ++ Y := (Pl.frs _).app hY
            refine ⟨.inl rfl, [.c [.sl (some (2, 0)) 12 (actL l most A[i]).length c, .i .i64 most], .dead, .c (frs (actL l most A[i]) ++ Y)], by show [_, _, Blk.c (subs _ _)] = _; simp only [hz]; rfl, ?_⟩
            conv => whnf
            refine Gh.regs [7, 5, 4, 1, 0] (Gh.sel [0, 2] rfl (Gh.of ⟨A.length - (i + 1), by omega, i + 1, actL l most A[i], by omega, rfl, hln2, hok2, hsr2, .inr ⟨c, Y, hc, hY, hYl, by show [_, Blk.c (subs _ _)] = _; simp only [hz]; rfl⟩, ?_⟩))
            refine keep_eq (show keepR _ _ = [_, _, _, _, _] from rfl) ?_
            simp only [subG, sub, subs_acs]
            rw [w64 (by omega) (by omega)]; rfl
      · have hil : i = A.length := by omega
        subst hil
        rcases hst with ⟨rfl, rfl⟩ | ⟨c, Y, hc, hY, hYl, rfl⟩
        · conv => whnf
          refine acond_f (decide_eq_false h1) ?_
          conv => whnf
          refine ACall.frameH [0] [] rfl (args' := [.p (some (0, 0))]) (Hc := [.c [.sl none 0 0 0, .i .i64 most]]) rfl rfl (qall_nil most) ?_
          rintro r H ⟨rfl, rfl⟩
          refine ⟨.inl rfl, [.c [.sl none 0 0 0, .i .i64 most]], rfl, ?_⟩
          conv => whnf
          refine ALoop.ind (ip := false) tok (fun m r H => H = [.c [.sl none 0 0 0, .i .i64 most]] ∧ r = [(9, .i .i64 0), (8, .sl none 0 0 0), (5, .p (some (0, 0))), (4, .b false), (0, .i .i64 most)]) 0 ?_ ?_
          · exact Gh.regs [9, 8, 5, 4, 0] (Gh.of ⟨rfl, rfl⟩)
          · rintro m r H ⟨rfl, rfl⟩
            conv => whnf
            refine ACall.frameH [0] [] rfl (args' := [.p (some (0, 0))]) (Hc := [.c [.sl none 0 0 0, .i .i64 most]]) rfl rfl (qfirst_nil most) ?_
            rintro r H ⟨rfl, rfl⟩
            refine ⟨.inl rfl, [.c [.sl none 0 0 0, .i .i64 most]], rfl, ?_⟩
            conv => whnf
            refine ⟨(by show 0 + 12 ≤ 12; omega), ?_⟩
            conv => whnf
            refine ACall.frameH [0] [] rfl (args' := [.p (some (0, 0))]) (Hc := [.c [.sl none 0 0 0, .i .i64 most]]) rfl rfl (qlen_spec none 0 0 0 (.i .i64 most) []) ?_
            rintro r H ⟨rfl, rfl⟩
            refine ⟨.inl rfl, _, rfl, ?_⟩
            conv => whnf
            refine ALoop.ind (ip := false) tok (fun m r H => ∃ (j : Nat) (p : List Fr), (j : Int) ≤ most ∧ m = most.toNat - j ∧ p.length = j ∧ (∀ F ∈ p, F.ok) ∧
              ((p = [] ∧ H = [.c [.sl none 0 0 0, .i .i64 most]]) ∨ ∃ c Y, p.length ≤ c ∧ Pl Y ∧ Y.length = (c - p.length) * 12 ∧ H = [.c [.sl (some (1, 0)) 12 p.length c, .i .i64 most], .c (frs p ++ Y)]) ∧
              r = [(14, .i .i64 j), (5, .p (some (0, 0))), (4, .b false), (0, .i .i64 most)]) most.toNat ?_ ?_
            · exact Gh.regs [14, 5, 4, 0] (Gh.sel [0] rfl (Gh.of ⟨0, [], by omega, by omega, rfl, (fun F h => by cases h), .inl ⟨rfl, rfl⟩, rfl⟩))
            · rintro m r H ⟨j, p, hj, rfl, hpj, hokp, hst, rfl⟩
              by_cases h5 : (j : Int) < most
              · have hmay := frQ_may j (by omega)
                have hokF : (frQ j false).ok := frQ_ok j false (by omega)
                have hok3 : ∀ F ∈ putL p (frQ j false), F.ok := fun F hF => by
                  rcases put_sub hF with rfl | h
                  · exact hokF
                  · exact hokp F h
                have hpl : (putL p (frQ j false)).length = j + 1 := by rw [putL_length, hpj]
                rcases hst with ⟨rfl, rfl⟩ | ⟨c, Y, hc, hY, hYl, rfl⟩
                · conv => whnf
                  refine acond_t (decide_eq_true h5) ?_
                  conv => whnf
                  refine ACall.frameH [0] [] rfl (args' := [.p (some (0, 0)), (frQ j false).av]) (Hc := [.c [.sl none 0 0 0, .i .i64 most]]) rfl rfl (qput_nil (frQ j false) hokF most (by omega)) ?_
                  rintro r H ⟨rfl, hh⟩
                  obtain ⟨_, c, Y, hc, hY, hYl, rfl⟩ := hh.resolve_right (fun h0 => h0.1 hmay)
                  have hz : ∀ φ, subs φ (frs [frQ j false] ++ Y) = frs [frQ j false] ++ Y := (Pl.frs _).app hY
                  rw [Fr.good hmay]
                  refine ⟨.inl rfl, [.c [.sl (some (1, 0)) 12 [frQ j false].length c, .i .i64 most], .c (frs [frQ j false] ++ Y)], by show [_, Blk.c (subs _ _)] = _; simp only [hz]; rfl, ?_⟩
                  conv => whnf
                  refine Gh.regs [14, 5, 4, 0] (Gh.of ⟨most.toNat - (j + 1), by omega, j + 1, [frQ j false], by omega, rfl, by simp at hpj ⊢; omega, hok3, .inr ⟨c, Y, hc, hY, hYl, rfl⟩, ?_⟩)
                  rw [w64 (by omega) (by omega)]; rfl
                · have hz0 : ∀ φ, subs φ (frs p ++ Y) = frs p ++ Y := (Pl.frs _).app hY
                  have he : putE p (frQ j false) most = 0 := by unfold putE; rw [if_pos hmay, if_neg (by omega)]
                  conv => whnf
                  refine acond_t (decide_eq_true h5) ?_
                  conv => whnf
                  refine ACall.frameH [0, 1] [] rfl (args' := [.p (some (0, 0)), (frQ j false).av]) (Hc := [.c [.sl (some (1, 0)) 12 p.length c, .i .i64 most], .c (frs p ++ Y)]) rfl (by show [_, Blk.c (subs _ _)] = _; simp only [hz0]; rfl) (qput_ok p (frQ j false) (putL p (frQ j false)) hokp hokF most c Y hc hY hYl he rfl (by omega)) ?_
                  clear hz0
                  rintro r H ⟨rfl, ⟨c, Y, hc, hY, hYl, rfl⟩ | ⟨c, Y, hc, hY, hYl, rfl⟩⟩
                  · have hz : ∀ φ, subs φ (frs (putL p (frQ j false)) ++ Y) = frs (putL p (frQ j false)) ++ Y := (Pl.frs _).app hY
                    refine ⟨.inl rfl, [.c [.sl (some (1, 0)) 12 (putL p (frQ j false)).length c, .i .i64 most], .c (frs (putL p (frQ j false)) ++ Y)], by show [_, Blk.c (subs _ _)] = _; simp only [hz]; rfl, ?_⟩
                    conv => whnf
                    refine Gh.regs [14, 5, 4, 0] (Gh.of ⟨most.toNat - (j + 1), by omega, j + 1, putL p (frQ j false), by omega, rfl, hpl, hok3, .inr ⟨c, Y, hc, hY, hYl, rfl⟩, ?_⟩)
                    rw [w64 (by omega) (by omega)]; rfl
                  · have hz : ∀ φ, subs φ (frs (putL p (frQ j false)) ++ Y) = frs (putL p (frQ j false)) ++ Y := (Pl.frs _).app hY
                    refine ⟨.inl rfl, [.c [.sl (some (2, 0)) 12 (putL p (frQ j false)).length c, .i .i64 most], .dead, .c (frs (putL p (frQ j false)) ++ Y)], by show [_, _, Blk.c (subs _ _)] = _; simp only [hz]; rfl, ?_⟩
                    conv => whnf
                    refine Gh.regs [14, 5, 4, 0] (Gh.sel [0, 2] rfl (Gh.of ⟨most.toNat - (j + 1), by omega, j + 1, putL p (frQ j false), by omega, rfl, hpl, hok3, .inr ⟨c, Y, hc, hY, hYl, by show [_, Blk.c (subs _ _)] = _; simp only [hz]; rfl⟩, ?_⟩))
                    refine keep_eq (show keepR _ _ = [_, _, _, _] from rfl) ?_
                    simp only [subG, sub]
                    rw [w64 (by omega) (by omega)]; rfl
              · have hjm : (j : Int) = most := by omega
                have hmay : (frQ 7 false).may := frQ_may 7 (by omega)
                rcases hst with ⟨rfl, rfl⟩ | ⟨c, Y, hc, hY, hYl, rfl⟩
                · simp at hpj; omega
                · have hz0 : ∀ φ, subs φ (frs p ++ Y) = frs p ++ Y := (Pl.frs _).app hY
                  have he : putE p (frQ 7 false) most = 15 := by unfold putE; rw [if_pos hmay, if_pos (by omega)]
                  have hput := qput_spec p hokp (frQ 7 false) (frQ_ok 7 false (by omega)) most c Y hc hY hYl (by omega)
                  rw [he] at hput
                  conv => whnf
                  refine acond_f (decide_eq_false h5) ?_
                  conv => whnf
                  refine ACall.frameH [0, 1] [] rfl (args' := [.p (some (0, 0)), (frQ 7 false).av]) (Hc := [.c [.sl (some (1, 0)) 12 p.length c, .i .i64 most], .c (frs p ++ Y)]) rfl (by show [_, Blk.c (subs _ _)] = _; simp only [hz0]; rfl) hput ?_
                  clear hz0
                  rintro r H ⟨rfl, ⟨h0, _⟩ | ⟨_, c, Y, hc, hY, hYl, rfl⟩⟩
                  · cases h0
                  have hz : ∀ φ, subs φ (frs p ++ Y) = frs p ++ Y := (Pl.frs _).app hY
                  have hlm : ((p.length : Int) == most) = true := beq_iff_eq.2 (by omega)
                  refine ⟨.inl rfl, [.c [.sl (some (1, 0)) 12 p.length c, .i .i64 most], .c (frs p ++ Y)], by show [_, Blk.c (subs _ _)] = _; simp only [hz]; rfl, ?_⟩
                  conv => whnf
                  refine ACall.frameH [0, 1] [] rfl (args' := [.p (some (0, 0))]) (Hc := [.c [.sl (some (1, 0)) 12 p.length c, .i .i64 most], .c (frs p ++ Y)]) rfl (by show [_, Blk.c (subs _ _)] = _; simp only [hz]; rfl) (qlen_spec (some (1, 0)) 12 p.length c (.i .i64 most) [.c (frs p ++ Y)]) ?_
                  rintro r H ⟨rfl, rfl⟩
                  refine ⟨.inl rfl, [.c [.sl (some (1, 0)) 12 p.length c, .i .i64 most], .c (frs p ++ Y)], by show [_, Blk.c (subs _ _)] = _; simp only [hz]; rfl, ?_⟩
                  conv => whnf
                  repeat (refine acond_t hlm ?_; conv => whnf)
                  refine ACall.frameH [] [] rfl (args' := []) (Hc := []) rfl rfl awake9_spec ?_
                  rintro r H ⟨rfl, rfl⟩
                  refine ⟨.inl rfl, _, rfl, ?_⟩
                  conv => whnf
                  repeat (refine acond_t hlm ?_; conv => whnf)
                  exact GhR.sel [] rfl (GhR.of ⟨rfl, rfl⟩)
        · have hzY : ∀ φ, subs φ (frs l ++ Y) = frs l ++ Y := (Pl.frs _).app hY
          conv => whnf
          refine acond_f (decide_eq_false h1) ?_
          conv => whnf
          refine ACall.frameH [0, 1] [] rfl (args' := [.p (some (0, 0))]) (Hc := [.c [.sl (some (1, 0)) 12 l.length c, .i .i64 most], .c (frs l ++ Y)]) rfl (by show [_, Blk.c (subs _ _)] = _; simp only [hzY]; rfl) (qall_spec l most c Y hY (by omega)) ?_
          rintro r H ⟨d, hd, rfl, rfl⟩
          refine ⟨.inl rfl, [.c [.sl (some (1, 0)) 12 l.length c, .i .i64 most], .c (frs l ++ Y), .c (frs l)], by show [_, Blk.c (subs _ _), Blk.c (subs _ _)] = _; simp only [hzY, subs_frs]; rfl, ?_⟩
          conv => whnf
          refine ALoop.ind (ip := false) tok (fun m r H => ∃ (k c : Nat) (Y : List AV), k ≤ l.length ∧ m = l.length - k ∧ (l.drop k).length ≤ c ∧ Pl Y ∧ Y.length = (c - (l.drop k).length) * 12 ∧ H = [.c [.sl (some (1, 0)) 12 (l.drop k).length c, .i .i64 most], .c (frs (l.drop k) ++ Y), .c (frs l)] ∧
            r = [(9, .i .i64 k), (8, .sl (some (2, 0)) 12 l.length d), (5, .p (some (0, 0))), (4, .b false), (0, .i .i64 most)]) l.length ?_ ?_
          · exact Gh.regs [9, 8, 5, 4, 0] (Gh.of ⟨0, c, Y, by omega, by omega, hc, hY, hYl, rfl, rfl⟩)
          · clear hzY hc hY hYl
            rintro m r H ⟨k, c, Y, hk, rfl, hc, hY, hYl, rfl, rfl⟩
            by_cases h2 : (k : Int) < l.length
            · have hkl : k < l.length := by omega
              have hdk : l.drop k = l[k] :: l.drop (k + 1) := List.drop_eq_getElem_cons hkl
              have hdl : (l.drop k).length = l.length - k := List.length_drop ..
              have hd1 : dropL (l.drop k) l[k] = l.drop (k + 1) := by rw [hdk, drop_head]
              have hmem : l[k] ∈ l.drop k := by rw [hdk]; exact List.mem_cons_self
              have hfirst := qfirst_spec l[k] (l.drop (k + 1)) most c Y hY
              rw [← hdk] at hfirst
              have hdrop := qdrop_ok (l.drop k) l[k] (l.drop (k + 1)) most c Y hc hY hYl hmem hd1 (by omega)
              have hz : ∀ φ, subs φ (frs (l.drop k) ++ Y) = frs (l.drop k) ++ Y := (Pl.frs _).app hY
              have heq : (!((l[k].id == l[k].id) && ((l[k].ext == l[k].ext) && ((l[k].rtr == l[k].rtr) && ((l[k].len == l[k].len) && ((l[k].b0 == l[k].b0) && ((l[k].b1 == l[k].b1) && ((l[k].b2 == l[k].b2) && ((l[k].b3 == l[k].b3) && ((l[k].b4 == l[k].b4) && ((l[k].b5 == l[k].b5) && ((l[k].b6 == l[k].b6) && ((l[k].b7 == l[k].b7) && true))))))))))))) = false := by rw [fr_eq, decide_eq_true rfl]; rfl
              have hlen : (((l.drop k).length : Int) != IntKind.i64.wrap ((l.length : Int) - k)) = false := by rw [w64 (by omega) (by omega)]; exact bne_eq_false_iff_eq.2 (by omega)
              conv => whnf
              refine acond_t (decide_eq_true h2) ?_
              conv => whnf
              refine ACall.frameH [0, 1] [] rfl (args' := [.p (some (0, 0))]) (Hc := [.c [.sl (some (1, 0)) 12 (l.drop k).length c, .i .i64 most], .c (frs (l.drop k) ++ Y)]) rfl (by show [_, Blk.c (subs _ _)] = _; simp only [hz]; rfl) (hfirst) ?_
              rintro r H ⟨rfl, rfl⟩
              refine ⟨.inl rfl, [.c [.sl (some (1, 0)) 12 (l.drop k).length c, .i .i64 most], .c (frs (l.drop k) ++ Y), .c (frs l)], by show [_, Blk.c (subs _ _), _] = _; simp only [hz]; rfl, ?_⟩
              conv => whnf
              refine ⟨(by show 0 + 12 ≤ 12; omega), ?_⟩
              conv => whnf
              refine ADraw.gh (Gh.regs [11, 10, 9, 8, 5, 4, 0] (Gh.of ?_))
              refine ADraw.to (r' := [(11, .b true), (10, .p (some (3, 0))), (9, .i .i64 k), (8, .sl (some (2, 0)) 12 l.length d), (5, .p (some (0, 0))), (4, .b false), (0, .i .i64 most)]) (H' := [.c [.sl (some (1, 0)) 12 (l.drop k).length c, .i .i64 most], .c (frs (l.drop k) ++ Y), .c (frs l), .c l[k].cells]) rfl rfl ?_
              refine ADraw.ph tok mixed false [([0, 1, 2, 3, 4, 5, 6, 7, 8, 9, 10, 11, 12, 13, 14, 15, 16, 17, 18, 19], 20), ([21, 22, 23, 24, 26, 27, 28, 29], 25), ([30, 31, 32, 33, 34], 35)] [36, 37] (by kernel_rfl) (fun _ _ _ _ h => h) ?_
              conv => whnf
              refine ⟨⟨by omega, h2⟩, ?_⟩
              conv => whnf
              refine aget_fr (k := k) (by omega) hkl ?_
              conv => whnf
              refine ⟨flatFrame, ?_⟩
              conv => whnf
              repeat (refine acond_f heq ?_; conv => whnf)
              by_cases hk0 : (k : Int) > 0
              · skip
                repeat (first | (refine acond_f heq ?_; conv => whnf) | (refine acond_f hlen ?_; conv => whnf) | (refine acond_t (decide_eq_true hk0) ?_; conv => whnf))
                have hw1 : IntKind.i64.wrap ((k : Int) - 1) = ((k - 1 : Nat) : Int) := by rw [w64 (by omega) (by omega)]; omega
                refine ⟨⟨by rw [hw1]; omega, by rw [hw1]; omega⟩, ?_⟩
                conv => whnf
                repeat (first | (refine acond_f heq ?_; conv => whnf) | (refine acond_f hlen ?_; conv => whnf) | (refine acond_t (decide_eq_true hk0) ?_; conv => whnf))
                refine aget_fr (k := k - 1) (by rw [hw1]; omega) (by omega) ?_
                conv => whnf
                repeat (first | (refine acond_f heq ?_; conv => whnf) | (refine acond_f hlen ?_; conv => whnf) | (refine acond_t (decide_eq_true hk0) ?_; conv => whnf))
                have hless := less_spec l[k] (l[k - 1]'(by omega)) (hok _ (List.getElem_mem _)) (hok _ (List.getElem_mem _))
                rw [List.pairwise_iff_getElem.1 hsr (k - 1) k (by omega) hkl (by omega)] at hless
                refine ACall.frameH [] [] rfl (args' := [l[k].av, (l[k - 1]'(by omega)).av]) (Hc := []) rfl rfl (hless) ?_
                rintro r H ⟨rfl, rfl⟩
                refine ⟨.inl rfl, [.c [.sl (some (1, 0)) 12 (l.drop k).length c, .i .i64 most], .c (frs (l.drop k) ++ Y), .c (frs l), .c l[k].cells], rfl, ?_⟩
                conv => whnf
                repeat (first | (refine acond_f heq ?_; conv => whnf) | (refine acond_f hlen ?_; conv => whnf) | (refine acond_t (decide_eq_true hk0) ?_; conv => whnf))
                refine ACall.frameH [0, 1] [] rfl (args' := [.p (some (0, 0))]) (Hc := [.c [.sl (some (1, 0)) 12 (l.drop k).length c, .i .i64 most], .c (frs (l.drop k) ++ Y)]) rfl (by show [_, Blk.c (subs _ _)] = _; simp only [hz]; rfl) (qlen_spec (some (1, 0)) 12 (l.drop k).length c (.i .i64 most) [.c (frs (l.drop k) ++ Y)]) ?_
                rintro r H ⟨rfl, rfl⟩
                refine ⟨.inl rfl, [.c [.sl (some (1, 0)) 12 (l.drop k).length c, .i .i64 most], .c (frs (l.drop k) ++ Y), .c (frs l), .c l[k].cells], by show [_, Blk.c (subs _ _), _, _] = _; simp only [hz]; rfl, ?_⟩
                conv => whnf
                repeat (first | (refine acond_f heq ?_; conv => whnf) | (refine acond_f hlen ?_; conv => whnf) | (refine acond_t (decide_eq_true hk0) ?_; conv => whnf))
                refine ACall.frameH [0, 1] [] rfl (args' := [.p (some (0, 0)), l[k].av]) (Hc := [.c [.sl (some (1, 0)) 12 (l.drop k).length c, .i .i64 most], .c (frs (l.drop k) ++ Y)]) rfl (by show [_, Blk.c (subs _ _)] = _; simp only [hz]; rfl) (hdrop) ?_
                rintro r H ⟨rfl, c2, Y2, k1, k2, k3, rfl⟩
                have hz2 : ∀ φ, subs φ (frs (l.drop (k + 1)) ++ Y2) = frs (l.drop (k + 1)) ++ Y2 := (Pl.frs _).app k2
                refine ⟨.inl rfl, [.c [.sl (some (1, 0)) 12 (l.drop (k + 1)).length c2, .i .i64 most], .c (frs (l.drop (k + 1)) ++ Y2), .c (frs l), .c l[k].cells], by show [_, Blk.c (subs _ _), _, _] = _; simp only [hz2]; rfl, ?_⟩
                conv => whnf
                repeat (first | (refine acond_f heq ?_; conv => whnf) | (refine acond_f hlen ?_; conv => whnf) | (refine acond_t (decide_eq_true hk0) ?_; conv => whnf))
                refine Gh.regs [9, 8, 5, 4, 0] (Gh.sel [0, 1, 2] rfl (Gh.of ⟨l.length - (k + 1), by omega, k + 1, c2, Y2, by omega, rfl, k1, k2, k3, by show [_, Blk.c (subs _ _), Blk.c (subs _ _)] = _; simp only [hz2, subs_frs]; rfl, ?_⟩))
                refine keep_eq (show keepR _ _ = [_, _, _, _, _] from rfl) ?_
                simp only [subG, sub]
                rw [w64 (by omega) (by omega)]; rfl
              · skip
                repeat (first | (refine acond_f heq ?_; conv => whnf) | (refine acond_f hlen ?_; conv => whnf) | (refine acond_f (decide_eq_false hk0) ?_; conv => whnf))
                refine ACall.frameH [0, 1] [] rfl (args' := [.p (some (0, 0))]) (Hc := [.c [.sl (some (1, 0)) 12 (l.drop k).length c, .i .i64 most], .c (frs (l.drop k) ++ Y)]) rfl (by show [_, Blk.c (subs _ _)] = _; simp only [hz]; rfl) (qlen_spec (some (1, 0)) 12 (l.drop k).length c (.i .i64 most) [.c (frs (l.drop k) ++ Y)]) ?_
                rintro r H ⟨rfl, rfl⟩
                refine ⟨.inl rfl, [.c [.sl (some (1, 0)) 12 (l.drop k).length c, .i .i64 most], .c (frs (l.drop k) ++ Y), .c (frs l), .c l[k].cells], by show [_, Blk.c (subs _ _), _, _] = _; simp only [hz]; rfl, ?_⟩
                conv => whnf
                repeat (first | (refine acond_f heq ?_; conv => whnf) | (refine acond_f hlen ?_; conv => whnf) | (refine acond_f (decide_eq_false hk0) ?_; conv => whnf))
                refine ACall.frameH [0, 1] [] rfl (args' := [.p (some (0, 0)), l[k].av]) (Hc := [.c [.sl (some (1, 0)) 12 (l.drop k).length c, .i .i64 most], .c (frs (l.drop k) ++ Y)]) rfl (by show [_, Blk.c (subs _ _)] = _; simp only [hz]; rfl) (hdrop) ?_
                rintro r H ⟨rfl, c2, Y2, k1, k2, k3, rfl⟩
                have hz2 : ∀ φ, subs φ (frs (l.drop (k + 1)) ++ Y2) = frs (l.drop (k + 1)) ++ Y2 := (Pl.frs _).app k2
                refine ⟨.inl rfl, [.c [.sl (some (1, 0)) 12 (l.drop (k + 1)).length c2, .i .i64 most], .c (frs (l.drop (k + 1)) ++ Y2), .c (frs l), .c l[k].cells], by show [_, Blk.c (subs _ _), _, _] = _; simp only [hz2]; rfl, ?_⟩
                conv => whnf
                repeat (first | (refine acond_f heq ?_; conv => whnf) | (refine acond_f hlen ?_; conv => whnf) | (refine acond_f (decide_eq_false hk0) ?_; conv => whnf))
                refine Gh.regs [9, 8, 5, 4, 0] (Gh.sel [0, 1, 2] rfl (Gh.of ⟨l.length - (k + 1), by omega, k + 1, c2, Y2, by omega, rfl, k1, k2, k3, by show [_, Blk.c (subs _ _), Blk.c (subs _ _)] = _; simp only [hz2, subs_frs]; rfl, ?_⟩))
                refine keep_eq (show keepR _ _ = [_, _, _, _, _] from rfl) ?_
                simp only [subG, sub]
                rw [w64 (by omega) (by omega)]; rfl
            · have hkl : k = l.length := by omega
              subst hkl
              have hd0 : l.drop l.length = [] := List.drop_length
              rw [hd0] at hc hYl
              rw [hd0]
              have hz : ∀ φ, subs φ (frs [] ++ Y) = frs [] ++ Y := fun φ => hY φ
              conv => whnf
              refine acond_f (decide_eq_false h2) ?_
              conv => whnf
              refine ACall.frameH [0, 1] [] rfl (args' := [.p (some (0, 0))]) (Hc := [.c [.sl (some (1, 0)) 12 0 c, .i .i64 most], .c Y]) rfl (by show [_, Blk.c (subs _ Y)] = _; rw [hY]; rfl) (qfirst_none most c Y hY) ?_
              rintro r H ⟨rfl, rfl⟩
              refine ⟨.inl rfl, [.c [.sl (some (1, 0)) 12 0 c, .i .i64 most], .c Y, .c (frs l)], by show [_, Blk.c (subs _ Y), _] = _; rw [hY]; rfl, ?_⟩
              conv => whnf
              refine ⟨(by show 0 + 12 ≤ 12; omega), ?_⟩
              conv => whnf
              refine ACall.frameH [0, 1] [] rfl (args' := [.p (some (0, 0))]) (Hc := [.c [.sl (some (1, 0)) 12 0 c, .i .i64 most], .c Y]) rfl (by show [_, Blk.c (subs _ Y)] = _; rw [hY]; rfl) (qlen_spec (some (1, 0)) 12 0 c (.i .i64 most) [.c Y]) ?_
              rintro r H ⟨rfl, rfl⟩
              refine ⟨.inl rfl, [.c [.sl (some (1, 0)) 12 0 c, .i .i64 most], .c Y, .c (frs l), .c z12], by show [_, Blk.c (subs _ Y), _, _] = _; rw [hY]; rfl, ?_⟩
              conv => whnf
              refine ALoop.ind (ip := false) tok (fun m r H => ∃ (j : Nat) (p : List Fr), (j : Int) ≤ most ∧ m = most.toNat - j ∧ p.length = j ∧ (∀ F ∈ p, F.ok) ∧
                ((p = [] ∧ H = [.c [.sl none 0 0 0, .i .i64 most]]) ∨ ∃ c Y, p.length ≤ c ∧ Pl Y ∧ Y.length = (c - p.length) * 12 ∧ H = [.c [.sl (some (1, 0)) 12 p.length c, .i .i64 most], .c (frs p ++ Y)]) ∧
                r = [(14, .i .i64 j), (5, .p (some (0, 0))), (4, .b false), (0, .i .i64 most)]) most.toNat ?_ ?_
              · refine Gh.regs [14, 5, 4, 0] (Gh.sel [0, 1] rfl (Gh.of ⟨0, [], by omega, by omega, rfl, (fun F h => by cases h), .inr ⟨c, Y, hc, hY, hYl, by show [_, Blk.c (subs _ Y)] = _; rw [hY]; rfl⟩, ?_⟩))
                refine keep_eq (show keepR _ _ = [_, _, _, _] from rfl) ?_
                rfl
              · rintro m r H ⟨j, p, hj, rfl, hpj, hokp, hst, rfl⟩
                by_cases h5 : (j : Int) < most
                · have hmay := frQ_may j (by omega)
                  have hokF : (frQ j false).ok := frQ_ok j false (by omega)
                  have hok3 : ∀ F ∈ putL p (frQ j false), F.ok := fun F hF => by
                    rcases put_sub hF with rfl | h
                    · exact hokF
                    · exact hokp F h
                  have hpl : (putL p (frQ j false)).length = j + 1 := by rw [putL_length, hpj]
                  rcases hst with ⟨rfl, rfl⟩ | ⟨c, Y, hc, hY, hYl, rfl⟩
                  · conv => whnf
                    refine acond_t (decide_eq_true h5) ?_
                    conv => whnf
                    refine ACall.frameH [0] [] rfl (args' := [.p (some (0, 0)), (frQ j false).av]) (Hc := [.c [.sl none 0 0 0, .i .i64 most]]) rfl rfl (qput_nil (frQ j false) hokF most (by omega)) ?_
                    rintro r H ⟨rfl, hh⟩
                    obtain ⟨_, c, Y, hc, hY, hYl, rfl⟩ := hh.resolve_right (fun h0 => h0.1 hmay)
                    have hz : ∀ φ, subs φ (frs [frQ j false] ++ Y) = frs [frQ j false] ++ Y := (Pl.frs _).app hY
                    rw [Fr.good hmay]
                    refine ⟨.inl rfl, [.c [.sl (some (1, 0)) 12 [frQ j false].length c, .i .i64 most], .c (frs [frQ j false] ++ Y)], by show [_, Blk.c (subs _ _)] = _; simp only [hz]; rfl, ?_⟩
                    conv => whnf
                    refine Gh.regs [14, 5, 4, 0] (Gh.of ⟨most.toNat - (j + 1), by omega, j + 1, [frQ j false], by omega, rfl, by simp at hpj ⊢; omega, hok3, .inr ⟨c, Y, hc, hY, hYl, rfl⟩, ?_⟩)
                    rw [w64 (by omega) (by omega)]; rfl
                  · have hz0 : ∀ φ, subs φ (frs p ++ Y) = frs p ++ Y := (Pl.frs _).app hY
                    have he : putE p (frQ j false) most = 0 := by unfold putE; rw [if_pos hmay, if_neg (by omega)]
                    conv => whnf
                    refine acond_t (decide_eq_true h5) ?_
                    conv => whnf
                    refine ACall.frameH [0, 1] [] rfl (args' := [.p (some (0, 0)), (frQ j false).av]) (Hc := [.c [.sl (some (1, 0)) 12 p.length c, .i .i64 most], .c (frs p ++ Y)]) rfl (by show [_, Blk.c (subs _ _)] = _; simp only [hz0]; rfl) (qput_ok p (frQ j false) (putL p (frQ j false)) hokp hokF most c Y hc hY hYl he rfl (by omega)) ?_
                    clear hz0
                    rintro r H ⟨rfl, ⟨c, Y, hc, hY, hYl, rfl⟩ | ⟨c, Y, hc, hY, hYl, rfl⟩⟩
                    · have hz : ∀ φ, subs φ (frs (putL p (frQ j false)) ++ Y) = frs (putL p (frQ j false)) ++ Y := (Pl.frs _).app hY
                      refine ⟨.inl rfl, [.c [.sl (some (1, 0)) 12 (putL p (frQ j false)).length c, .i .i64 most], .c (frs (putL p (frQ j false)) ++ Y)], by show [_, Blk.c (subs _ _)] = _; simp only [hz]; rfl, ?_⟩
                      conv => whnf
                      refine Gh.regs [14, 5, 4, 0] (Gh.of ⟨most.toNat - (j + 1), by omega, j + 1, putL p (frQ j false), by omega, rfl, hpl, hok3, .inr ⟨c, Y, hc, hY, hYl, rfl⟩, ?_⟩)
                      rw [w64 (by omega) (by omega)]; rfl
                    · have hz : ∀ φ, subs φ (frs (putL p (frQ j false)) ++ Y) = frs (putL p (frQ j false)) ++ Y := (Pl.frs _).app hY
                      refine ⟨.inl rfl, [.c [.sl (some (2, 0)) 12 (putL p (frQ j false)).length c, .i .i64 most], .dead, .c (frs (putL p (frQ j false)) ++ Y)], by show [_, _, Blk.c (subs _ _)] = _; simp only [hz]; rfl, ?_⟩
                      conv => whnf
                      refine Gh.regs [14, 5, 4, 0] (Gh.sel [0, 2] rfl (Gh.of ⟨most.toNat - (j + 1), by omega, j + 1, putL p (frQ j false), by omega, rfl, hpl, hok3, .inr ⟨c, Y, hc, hY, hYl, by show [_, Blk.c (subs _ _)] = _; simp only [hz]; rfl⟩, ?_⟩))
                      refine keep_eq (show keepR _ _ = [_, _, _, _] from rfl) ?_
                      simp only [subG, sub]
                      rw [w64 (by omega) (by omega)]; rfl
                · have hjm : (j : Int) = most := by omega
                  have hmay : (frQ 7 false).may := frQ_may 7 (by omega)
                  rcases hst with ⟨rfl, rfl⟩ | ⟨c, Y, hc, hY, hYl, rfl⟩
                  · simp at hpj; omega
                  · have hz0 : ∀ φ, subs φ (frs p ++ Y) = frs p ++ Y := (Pl.frs _).app hY
                    have he : putE p (frQ 7 false) most = 15 := by unfold putE; rw [if_pos hmay, if_pos (by omega)]
                    have hput := qput_spec p hokp (frQ 7 false) (frQ_ok 7 false (by omega)) most c Y hc hY hYl (by omega)
                    rw [he] at hput
                    conv => whnf
                    refine acond_f (decide_eq_false h5) ?_
                    conv => whnf
                    refine ACall.frameH [0, 1] [] rfl (args' := [.p (some (0, 0)), (frQ 7 false).av]) (Hc := [.c [.sl (some (1, 0)) 12 p.length c, .i .i64 most], .c (frs p ++ Y)]) rfl (by show [_, Blk.c (subs _ _)] = _; simp only [hz0]; rfl) hput ?_
                    clear hz0
                    rintro r H ⟨rfl, ⟨h0, _⟩ | ⟨_, c, Y, hc, hY, hYl, rfl⟩⟩
                    · cases h0
                    have hz : ∀ φ, subs φ (frs p ++ Y) = frs p ++ Y := (Pl.frs _).app hY
                    have hlm : ((p.length : Int) == most) = true := beq_iff_eq.2 (by omega)
                    refine ⟨.inl rfl, [.c [.sl (some (1, 0)) 12 p.length c, .i .i64 most], .c (frs p ++ Y)], by show [_, Blk.c (subs _ _)] = _; simp only [hz]; rfl, ?_⟩
                    conv => whnf
                    refine ACall.frameH [0, 1] [] rfl (args' := [.p (some (0, 0))]) (Hc := [.c [.sl (some (1, 0)) 12 p.length c, .i .i64 most], .c (frs p ++ Y)]) rfl (by show [_, Blk.c (subs _ _)] = _; simp only [hz]; rfl) (qlen_spec (some (1, 0)) 12 p.length c (.i .i64 most) [.c (frs p ++ Y)]) ?_
                    rintro r H ⟨rfl, rfl⟩
                    refine ⟨.inl rfl, [.c [.sl (some (1, 0)) 12 p.length c, .i .i64 most], .c (frs p ++ Y)], by show [_, Blk.c (subs _ _)] = _; simp only [hz]; rfl, ?_⟩
                    conv => whnf
                    repeat (refine acond_t hlm ?_; conv => whnf)
                    refine ACall.frameH [] [] rfl (args' := []) (Hc := []) rfl rfl awake9_spec ?_
                    rintro r H ⟨rfl, rfl⟩
                    refine ⟨.inl rfl, _, rfl, ?_⟩
                    conv => whnf
                    repeat (refine acond_t hlm ?_; conv => whnf)
                    exact GhR.sel [] rfl (GhR.of ⟨rfl, rfl⟩)
end Go.AK
