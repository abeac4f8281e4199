/- Texts SQLaw1, SQAwake, SQTop, SQPlain, SQDrops: an evaluator of the model's code, proved sound, and what the program's functions do, for all inputs. -/
import Derived.Test.YtmhagleekhihoaaMS3
namespace Go.AK
open Go Go.RowKit Go.Proofs
set_option linter.unusedVariables false
set_option maxRecDepth 100000
/-- Acts, cell by cell. -/
def acs : List (Bool × Fr) → List AV
  | [] => []
  | a :: L => (.b a.1 :: a.2.cells) ++ acs L
theorem acs_length : ∀ (L : List (Bool × Fr)), (acs L).length = L.length * 13
  | [] => rfl
  | a :: L => by
    rw [acs, List.length_append, acs_length L, show (a :: L).length = L.length + 1 from rfl]
    show 13 + _ = _
    omega
theorem acs_drop : ∀ (L : List (Bool × Fr)) (k : Nat), (acs L).drop (k * 13) = acs (L.drop k)
  | L, 0 => by simp
  | [], k + 1 => by simp [acs]
  | a :: L, k + 1 => by
    rw [acs, List.drop_succ_cons, ← acs_drop L k, show (k + 1) * 13 = 13 + k * 13 from by omega, ← List.drop_drop]
    rfl
theorem acs_get {L : List (Bool × Fr)} {k : Nat} (hk : k < L.length) {j : Nat} (hj : j < 13) : (acs L)[k * 13 + j]? = (AV.b L[k].1 :: L[k].2.cells)[j]? := by
  rw [← List.getElem?_drop, acs_drop, List.drop_eq_getElem_cons hk, acs, List.getElem?_append_left (by show j < 13; exact hj)]
theorem subs_acs (φ : Nat → Sb) : ∀ (L : List (Bool × Fr)), subs φ (acs L) = acs L
  | [] => rfl
  | a :: L => by rw [acs, subs_app, subs_acs φ L]; rfl
theorem aget_act {L : List (Bool × Fr)} {k o : Nat} (ho : o = k * 13) (hk : k < L.length) {K : AV → AV → AV → AV → AV → AV → AV → AV → AV → AV → AV → AV → AV → Prop} (h : K (.b L[k].1) (.i .i64 L[k].2.id) (.b L[k].2.ext) (.b L[k].2.rtr) (.i .i64 L[k].2.len) (.i .u8 L[k].2.b0) (.i .u8 L[k].2.b1) (.i .u8 L[k].2.b2) (.i .u8 L[k].2.b3) (.i .u8 L[k].2.b4) (.i .u8 L[k].2.b5) (.i .u8 L[k].2.b6) (.i .u8 L[k].2.b7)) :
    aget (acs L) o fun v0 => aget (acs L) (o + 1) fun v1 => aget (acs L) ((o + 1) + 1) fun v2 => aget (acs L) (((o + 1) + 1) + 1) fun v3 => aget (acs L) ((((o + 1) + 1) + 1) + 1) fun v4 => aget (acs L) (((((o + 1) + 1) + 1) + 1) + 1) fun v5 => aget (acs L) ((((((o + 1) + 1) + 1) + 1) + 1) + 1) fun v6 => aget (acs L) (((((((o + 1) + 1) + 1) + 1) + 1) + 1) + 1) fun v7 => aget (acs L) ((((((((o + 1) + 1) + 1) + 1) + 1) + 1) + 1) + 1) fun v8 => aget (acs L) (((((((((o + 1) + 1) + 1) + 1) + 1) + 1) + 1) + 1) + 1) fun v9 => aget (acs L) ((((((((((o + 1) + 1) + 1) + 1) + 1) + 1) + 1) + 1) + 1) + 1) fun v10 => aget (acs L) (((((((((((o + 1) + 1) + 1) + 1) + 1) + 1) + 1) + 1) + 1) + 1) + 1) fun v11 => aget (acs L) ((((((((((((o + 1) + 1) + 1) + 1) + 1) + 1) + 1) + 1) + 1) + 1) + 1) + 1) fun v12 => K v0 v1 v2 v3 v4 v5 v6 v7 v8 v9 v10 v11 v12 := by
  subst ho
  have g : ∀ j (v : AV), j < 13 → (AV.b L[k].1 :: L[k].2.cells)[j]? = some v → (acs L)[k * 13 + j]? = some v := fun j v hj h => by rw [acs_get hk hj, h]
  unfold aget
  rw [show (acs L)[k * 13]? = some (.b L[k].1) from g 0 _ (by omega) rfl]
  dsimp only
  rw [show (acs L)[(k * 13 + 1)]? = some (.i .i64 L[k].2.id) from g 1 _ (by omega) rfl]
  dsimp only
  rw [show (acs L)[((k * 13 + 1) + 1)]? = some (.b L[k].2.ext) from g 2 _ (by omega) rfl]
  dsimp only
  rw [show (acs L)[(((k * 13 + 1) + 1) + 1)]? = some (.b L[k].2.rtr) from g 3 _ (by omega) rfl]
  dsimp only
  rw [show (acs L)[((((k * 13 + 1) + 1) + 1) + 1)]? = some (.i .i64 L[k].2.len) from g 4 _ (by omega) rfl]
  dsimp only
  rw [show (acs L)[(((((k * 13 + 1) + 1) + 1) + 1) + 1)]? = some (.i .u8 L[k].2.b0) from g 5 _ (by omega) rfl]
  dsimp only
  rw [show (acs L)[((((((k * 13 + 1) + 1) + 1) + 1) + 1) + 1)]? = some (.i .u8 L[k].2.b1) from g 6 _ (by omega) rfl]
  dsimp only
  rw [show (acs L)[(((((((k * 13 + 1) + 1) + 1) + 1) + 1) + 1) + 1)]? = some (.i .u8 L[k].2.b2) from g 7 _ (by omega) rfl]
  dsimp only
  rw [show (acs L)[((((((((k * 13 + 1) + 1) + 1) + 1) + 1) + 1) + 1) + 1)]? = some (.i .u8 L[k].2.b3) from g 8 _ (by omega) rfl]
  dsimp only
  rw [show (acs L)[(((((((((k * 13 + 1) + 1) + 1) + 1) + 1) + 1) + 1) + 1) + 1)]? = some (.i .u8 L[k].2.b4) from g 9 _ (by omega) rfl]
  dsimp only
  rw [show (acs L)[((((((((((k * 13 + 1) + 1) + 1) + 1) + 1) + 1) + 1) + 1) + 1) + 1)]? = some (.i .u8 L[k].2.b5) from g 10 _ (by omega) rfl]
  dsimp only
  rw [show (acs L)[(((((((((((k * 13 + 1) + 1) + 1) + 1) + 1) + 1) + 1) + 1) + 1) + 1) + 1)]? = some (.i .u8 L[k].2.b6) from g 11 _ (by omega) rfl]
  dsimp only
  rw [show (acs L)[((((((((((((k * 13 + 1) + 1) + 1) + 1) + 1) + 1) + 1) + 1) + 1) + 1) + 1) + 1)]? = some (.i .u8 L[k].2.b7) from g 12 _ (by omega) rfl]
  exact h

def actAV (a : Bool × Fr) : AV := .agg (.b a.1 :: a.2.cells)
/-- What an act tells, and what is in then. -/
def actE (l : List Fr) (most : Int) (a : Bool × Fr) : Int := if a.1 = true then (if a.2 ∈ l then 0 else 16) else putE l a.2 most
def actL (l : List Fr) (most : Int) (a : Bool × Fr) : List Fr := if a.1 = true then (if a.2 ∈ l then dropL l a.2 else l) else (if putE l a.2 most = 0 then putL l a.2 else l)
theorem does_spec (l : List Fr) (hok : ∀ F ∈ l, F.ok) (a : Bool × Fr) (ha : a.2.ok) (most : Int) (c : Nat) (Y : List AV) (hc : l.length ≤ c) (hY : Pl Y) (hYl : Y.length = (c - l.length) * 12) (hl : l.length < 1000000) :
    ACall Try.prog 16 [.p (some (0, 0)), actAV a] [.c [.sl (some (1, 0)) 12 l.length c, .i .i64 most], .c (frs l ++ Y)] fun r H => r = .ret (.i .i64 (actE l most a)) ∧ (QIn (actL l most a) most H ∨ QMv (actL l most a) most H) := by
  obtain ⟨d, F⟩ := a
  refine ACall.gh ?_
  refine ACall.enter tok false Try.func16 rfl rfl rfl (AW_sound (ip := false) tok _ _ _ _ ?_)
  have hp : Pl (frs l ++ Y) := (Pl.frs l).app hY
  cases d
  · conv => whnf
    refine ACall.frame [0, 1] [] rfl (args' := [.p (some (0, 0)), F.av]) (Hc := [.c [.sl (some (1, 0)) 12 l.length c, .i .i64 most], .c (frs l ++ Y)]) rfl (by show [_, Blk.c (subs _ (frs l ++ Y))] = _; rw [hp]; rfl) (qput_spec l hok F ha most c Y hc hY hYl hl) ?_
    rintro r H ⟨rfl, ⟨h0, ⟨d, Z, k1, k2, k3, rfl⟩ | ⟨d, Z, k1, k2, k3, rfl⟩⟩ | ⟨h0, d, Z, k1, k2, k3, rfl⟩⟩
    · have hL : actL l most (false, F) = putL l F := by unfold actL; rw [if_neg (by simp), if_pos h0]
      refine ⟨.inl rfl, ?_⟩
      conv => whnf
      have hz : Pl (frs (putL l F) ++ Z) := (Pl.frs _).app k2
      refine GhR.sel [0, 1] rfl (GhR.of ⟨rfl, .inl ⟨d, Z, by rw [hL]; exact k1, k2, by rw [hL]; exact k3, ?_⟩⟩)
      rw [hL]
      show [_, Blk.c (subs _ (subs _ (frs (putL l F) ++ Z)))] = _
      rw [hz, hz]
      rfl
    · have hL : actL l most (false, F) = putL l F := by unfold actL; rw [if_neg (by simp), if_pos h0]
      refine ⟨.inl rfl, ?_⟩
      conv => whnf
      have hz : Pl (frs (putL l F) ++ Z) := (Pl.frs _).app k2
      refine GhR.sel [0, 1, 3] rfl (GhR.of ⟨rfl, .inr ⟨d, Z, by rw [hL]; exact k1, k2, by rw [hL]; exact k3, ?_⟩⟩)
      rw [hL]
      show [_, _, Blk.c (subs _ (subs _ (frs (putL l F) ++ Z)))] = _
      rw [hz, hz]
      rfl
    · have hL : actL l most (false, F) = l := by unfold actL; rw [if_neg (by simp), if_neg h0]
      refine ⟨.inl rfl, ?_⟩
      conv => whnf
      have hz : Pl (frs l ++ Z) := (Pl.frs _).app k2
      refine GhR.sel [0, 1] rfl (GhR.of ⟨rfl, .inl ⟨d, Z, by rw [hL]; exact k1, k2, by rw [hL]; exact k3, ?_⟩⟩)
      rw [hL]
      show [_, Blk.c (subs _ (subs _ (frs l ++ Z)))] = _
      rw [hz, hz]
      rfl
  · conv => whnf
    refine ACall.frame [0, 1] [] rfl (args' := [.p (some (0, 0)), F.av]) (Hc := [.c [.sl (some (1, 0)) 12 l.length c, .i .i64 most], .c (frs l ++ Y)]) rfl (by show [_, Blk.c (subs _ (frs l ++ Y))] = _; rw [hp]; rfl) (qdrop_spec l F most c Y hc hY hYl hl) ?_
    rintro r H (⟨hm, rfl, d, Z, k1, k2, k3, rfl⟩ | ⟨hm, rfl, d, Z, k1, k2, k3, rfl⟩)
    · have hL : actL l most (true, F) = dropL l F := by unfold actL; rw [if_pos rfl, if_pos hm]
      have hE : actE l most (true, F) = 0 := by unfold actE; rw [if_pos rfl, if_pos hm]
      refine ⟨.inl rfl, ?_⟩
      conv => whnf
      have hz : Pl (frs (dropL l F) ++ Z) := (Pl.frs _).app k2
      refine GhR.sel [0, 1] rfl (GhR.of ⟨by rw [hE]; rfl, .inl ⟨d, Z, by rw [hL]; exact k1, k2, by rw [hL]; exact k3, ?_⟩⟩)
      rw [hL]
      show [_, Blk.c (subs _ (subs _ (frs (dropL l F) ++ Z)))] = _
      rw [hz, hz]
      rfl
    · have hL : actL l most (true, F) = l := by unfold actL; rw [if_pos rfl, if_neg hm]
      have hE : actE l most (true, F) = 16 := by unfold actE; rw [if_pos rfl, if_neg hm]
      refine ⟨.inl rfl, ?_⟩
      conv => whnf
      have hz : Pl (frs l ++ Z) := (Pl.frs _).app k2
      refine GhR.sel [0, 1] rfl (GhR.of ⟨by rw [hE]; rfl, .inl ⟨d, Z, by rw [hL]; exact k1, k2, by rw [hL]; exact k3, ?_⟩⟩)
      rw [hL]
      show [_, Blk.c (subs _ (subs _ (frs l ++ Z)))] = _
      rw [hz, hz]
      rfl
theorem does_nil (a : Bool × Fr) (ha : a.2.ok) (most : Int) (hmost : 1 ≤ most) :
    ACall Try.prog 16 [.p (some (0, 0)), actAV a] [.c [.sl none 0 0 0, .i .i64 most]] fun r H => r = .ret (.i .i64 (actE [] most a)) ∧ ((actL [] most a = [] ∧ QNil most H) ∨ QIn (actL [] most a) most H) := by
  obtain ⟨d, F⟩ := a
  refine ACall.gh ?_
  refine ACall.enter tok false Try.func16 rfl rfl rfl (AW_sound (ip := false) tok _ _ _ _ ?_)
  cases d
  · conv => whnf
    refine ACall.frame [0] [] rfl (args' := [.p (some (0, 0)), F.av]) (Hc := [.c [.sl none 0 0 0, .i .i64 most]]) rfl rfl (qput_nil F ha most hmost) ?_
    rintro r H ⟨rfl, ⟨h0, d, Z, k1, k2, k3, rfl⟩ | ⟨h0, rfl⟩⟩
    · have hE : actE [] most (false, F) = F.chk := by
        unfold actE putE; rw [if_neg (by simp), if_pos h0, if_neg (by simp; omega), Fr.good h0]
      have hL : actL [] most (false, F) = [F] := by
        have hpe : putE [] F most = 0 := by unfold putE; rw [if_pos h0, if_neg (by simp; omega)]
        unfold actL; rw [if_neg (by simp), if_pos hpe]; rfl
      refine ⟨.inl rfl, ?_⟩
      conv => whnf
      have hz : Pl (frs [F] ++ Z) := (Pl.frs _).app k2
      refine GhR.sel [0, 2] rfl (GhR.of ⟨by rw [hE]; rfl, .inr ⟨d, Z, by rw [hL]; exact k1, k2, by rw [hL]; exact k3, ?_⟩⟩)
      rw [hL]
      show [_, Blk.c (subs _ (subs _ (frs [F] ++ Z)))] = _
      rw [hz, hz]
      rfl
    · have hE : actE [] most (false, F) = F.chk := by
        unfold actE putE; rw [if_neg (by simp), if_neg h0, Fr.bad h0]
      have hL : actL [] most (false, F) = [] := by
        unfold actL putE; rw [if_neg (by simp), if_neg h0, if_neg (by decide)]
      refine ⟨.inl rfl, ?_⟩
      conv => whnf
      exact GhR.sel [0] rfl (GhR.of ⟨by rw [hE]; rfl, .inl ⟨hL, rfl⟩⟩)
  · conv => whnf
    refine ACall.frame [0] [] rfl (args' := [.p (some (0, 0)), F.av]) (Hc := [.c [.sl none 0 0 0, .i .i64 most]]) rfl rfl (qdrop_nil F most) ?_
    rintro r H ⟨rfl, rfl⟩
    refine ⟨.inl rfl, ?_⟩
    conv => whnf
    exact GhR.sel [0] rfl (GhR.of ⟨rfl, .inl ⟨rfl, rfl⟩⟩)
theorem same_spec (L M : List Fr) (hL : L.length < 1000000000) : ACall Try.prog 20 [.rs (frs L) 0 12 L.length, .rs (frs M) 0 12 M.length] [] fun r H => r = .ret (.b (decide (L = M))) ∧ H = [] := by
  refine ACall.enter tok false Try.func20 rfl rfl rfl (AW_sound (ip := false) tok _ _ _ _ ?_)
  conv => whnf
  by_cases hl : L.length = M.length
  · refine acond_f (t := ((L.length : Int) != (M.length : Int))) (by rw [hl]; exact bne_self_eq_false _) ?_
    conv => whnf
    refine ALoop.ind (ip := false) tok (fun m r H => ∃ (k : Nat), k ≤ L.length ∧ m = L.length - k ∧ L.take k = M.take k ∧ H = [] ∧
      r = [(5, .i .i64 k), (0, .rs (frs L) 0 12 L.length), (1, .rs (frs M) 0 12 M.length), (4, .b false)]) L.length ?_ ?_
    · exact Gh.regs [5, 0, 1, 4] (Gh.of ⟨0, by omega, by omega, rfl, rfl, rfl⟩)
    · rintro m r H ⟨k, hk, rfl, hn, rfl, rfl⟩
      by_cases h : (k : Int) < L.length
      · have hk1 : k < L.length := by omega
        have hk2 : k < M.length := by omega
        conv => whnf
        refine acond_t (decide_eq_true h) ?_
        conv => whnf
        refine ADraw.of tok mixed false [0, 1, 2, 3, 4, 5, 6, 7, 8] [] (by kernel_rfl) (fun _ _ _ _ h => h) ?_
        conv => whnf
        refine ⟨⟨by omega, by omega⟩, ?_⟩
        conv => whnf
        refine aget_fr (k := k) (by omega) hk1 ?_
        conv => whnf
        refine ⟨⟨by omega, by omega⟩, ?_⟩
        conv => whnf
        refine aget_fr (k := k) (by omega) hk2 ?_
        conv => whnf
        refine ⟨flatFrame, ?_⟩
        conv => whnf
        by_cases he : L[k] = M[k]
        · refine acond_f (by rw [fr_eq, decide_eq_true he]; rfl) ?_
          conv => whnf
          refine Gh.regs [5, 0, 1, 4] (Gh.of ⟨L.length - (k + 1), by omega, k + 1, by omega, rfl, ?_, rfl, ?_⟩)
          · rw [List.take_add_one, List.take_add_one, hn, List.getElem?_eq_getElem hk1, List.getElem?_eq_getElem hk2, he]
          · rw [w64 (by omega) (by omega)]; rfl
        · refine acond_t (by rw [fr_eq, decide_eq_false he]; rfl) ?_
          conv => whnf
          refine ⟨?_, rfl⟩
          rw [decide_eq_false (fun h => he (by subst h; rfl))]
      · conv => whnf
        refine acond_f (decide_eq_false h) ?_
        conv => whnf
        refine ⟨?_, rfl⟩
        have hkl : k = L.length := by omega
        rw [hkl, List.take_length, hl, List.take_length] at hn
        rw [decide_eq_true hn]
  · refine acond_t (t := ((L.length : Int) != (M.length : Int))) (bne_iff_ne.2 (by omega)) ?_
    conv => whnf
    refine ⟨?_, rfl⟩
    rw [decide_eq_false (fun h => hl (by rw [h]))]
end Go.AK
namespace Go.AK
open Go Go.RowKit Go.Proofs
set_option linter.unusedVariables false
set_option maxRecDepth 100000
def frQ (id : Int) (ext : Bool) : Fr := ⟨id, ext, false, 0, 0, 0, 0, 0, 0, 0, 0, 0⟩
theorem frQ_ok (id : Int) (ext : Bool) (h : -9223372036854775808 ≤ id ∧ id ≤ 9223372036854775807) : (frQ id ext).ok := ⟨h, by show (-9223372036854775808 : Int) ≤ 0 ∧ (0 : Int) ≤ 9223372036854775807; omega, fun x hx => by
    have : x ∈ List.replicate 8 (0 : Int) := hx
    rw [(List.mem_replicate.1 this).2]; omega⟩
theorem qput_ok (l : List Fr) (F : Fr) (l' : List Fr) (hok : ∀ F ∈ l, F.ok) (hF : F.ok) (most : Int) (c : Nat) (Y : List AV) (hc : l.length ≤ c) (hY : Pl Y) (hYl : Y.length = (c - l.length) * 12) (he : putE l F most = 0) (hl' : putL l F = l') (hl : l.length < 1000000 := by decide) :
    ACall Try.prog 21 [.p (some (0, 0)), F.av] [.c [.sl (some (1, 0)) 12 l.length c, .i .i64 most], .c (frs l ++ Y)] fun r H => r = .ret (.i .i64 0) ∧ (QIn l' most H ∨ QMv l' most H) := by
  refine ACall.mono (qput_spec l hok F hF most c Y hc hY hYl hl) ?_
  rw [he, hl']
  rintro r H ⟨rfl, ⟨_, h⟩ | ⟨h, _⟩⟩
  · exact ⟨rfl, h⟩
  · exact absurd rfl h
theorem qdrop_ok (l : List Fr) (F : Fr) (l' : List Fr) (most : Int) (c : Nat) (Y : List AV) (hc : l.length ≤ c) (hY : Pl Y) (hYl : Y.length = (c - l.length) * 12) (hm : F ∈ l) (hl' : dropL l F = l') (hl : l.length < 1000000 := by decide) :
    ACall Try.prog 19 [.p (some (0, 0)), F.av] [.c [.sl (some (1, 0)) 12 l.length c, .i .i64 most], .c (frs l ++ Y)] fun r H => r = .ret (.i .i64 0) ∧ QIn l' most H := by
  refine ACall.mono (qdrop_spec l F most c Y hc hY hYl hl) ?_
  rw [hl']
  rintro r H (⟨_, rfl, h⟩ | ⟨h, _⟩)
  · exact ⟨rfl, h⟩
  · exact absurd hm h
theorem okF (n : Int) (h : -9223372036854775808 ≤ n ∧ n ≤ 9223372036854775807 := by omega) : (frQ n false).ok := frQ_ok n false h
set_option maxHeartbeats 1000000 in
theorem awake9_spec : ACall Try.prog 14 [] [] fun r H => r = .ret (.b true) ∧ H = [] := by
  refine ACall.gh ?_
  refine ACall.enter tok false Try.func14 rfl rfl rfl (AW_sound (ip := false) tok _ _ _ _ ?_)
  conv => whnf
  refine ACall.frame [] [] rfl (args' := [.i .i64 3]) (Hc := []) rfl rfl (qnew_spec 3) ?_
  rintro r H (⟨h, _⟩ | ⟨_, _, rfl, rfl⟩)
  · omega
  refine ⟨.inl rfl, ?_⟩
  conv => whnf
  refine ACall.frame [] [] rfl (args' := [.i .i64 1]) (Hc := []) rfl rfl (qnew_spec 1) ?_
  rintro r H (⟨h, _⟩ | ⟨_, _, rfl, rfl⟩)
  · omega
  refine ⟨.inl rfl, ?_⟩
  conv => whnf
  refine ACall.frameH [0] [] rfl (args' := [.p (some (0, 0)), (frQ 5 false).av]) (Hc := [.c [.sl none 0 0 0, .i .i64 3]]) rfl rfl (qput_nil (frQ 5 false) (okF 5) 3 (by omega)) ?_
  rintro r H ⟨rfl, hh⟩
  obtain ⟨_, c, Y, hc, hY, hYl, rfl⟩ := hh.resolve_right (fun h0 => h0.1 (by decide))
  have hz : ∀ φ, subs φ (frs [frQ 5 false] ++ Y) = frs [frQ 5 false] ++ Y := (Pl.frs _).app hY
  rw [show (frQ 5 false).chk = 0 from by kernel_rfl]
  refine ⟨.inl rfl, [.c [.sl (some (2, 0)) 12 1 c, .i .i64 3], .c [.sl none 0 0 0, .i .i64 1], .c (frs [frQ 5 false] ++ Y)], by show [_, _, Blk.c (subs _ _)] = _; simp only [hz]; rfl, ?_⟩
  conv => whnf
  refine ACall.frameH [0, 2] [] rfl (args' := [.p (some (0, 0)), (frQ 3 false).av]) (Hc := [.c [.sl (some (1, 0)) 12 1 c, .i .i64 3], .c (frs [frQ 5 false] ++ Y)]) rfl (by show [_, Blk.c (subs _ _)] = _; rw [hz]; rfl) (qput_ok [frQ 5 false] (frQ 3 false) [frQ 3 false, frQ 5 false] (by intro X hX; simp only [List.mem_cons, List.not_mem_nil, or_false] at hX; all_goals (first | (rcases hX with rfl | rfl | rfl <;> exact okF _) | (rcases hX with rfl | rfl <;> exact okF _) | (subst hX; exact okF _))) (okF 3) 3 c Y hc hY hYl (by kernel_rfl) (by kernel_rfl)) ?_
  clear hz
  rintro r H ⟨rfl, ⟨c, Y, hc, hY, hYl, rfl⟩ | ⟨c, Y, hc, hY, hYl, rfl⟩⟩
  · have hz : ∀ φ, subs φ (frs [frQ 3 false, frQ 5 false] ++ Y) = frs [frQ 3 false, frQ 5 false] ++ Y := (Pl.frs _).app hY
    refine ⟨.inl rfl, [.c [.sl (some (2, 0)) 12 2 c, .i .i64 3], .c [.sl none 0 0 0, .i .i64 1], .c (frs [frQ 3 false, frQ 5 false] ++ Y)], by show [_, _, Blk.c (subs _ _)] = _; simp only [hz]; rfl, ?_⟩
    conv => whnf
    refine ACall.frameH [0, 2] [] rfl (args' := [.p (some (0, 0)), (frQ 4 false).av]) (Hc := [.c [.sl (some (1, 0)) 12 2 c, .i .i64 3], .c (frs [frQ 3 false, frQ 5 false] ++ Y)]) rfl (by show [_, Blk.c (subs _ _)] = _; rw [hz]; rfl) (qput_ok [frQ 3 false, frQ 5 false] (frQ 4 false) [frQ 3 false, frQ 4 false, frQ 5 false] (by intro X hX; simp only [List.mem_cons, List.not_mem_nil, or_false] at hX; all_goals (first | (rcases hX with rfl | rfl | rfl <;> exact okF _) | (rcases hX with rfl | rfl <;> exact okF _) | (subst hX; exact okF _))) (okF 4) 3 c Y hc hY hYl (by kernel_rfl) (by kernel_rfl)) ?_
    clear hz
    rintro r H ⟨rfl, ⟨c, Y, hc, hY, hYl, rfl⟩ | ⟨c, Y, hc, hY, hYl, rfl⟩⟩
    · have hz : ∀ φ, subs φ (frs [frQ 3 false, frQ 4 false, frQ 5 false] ++ Y) = frs [frQ 3 false, frQ 4 false, frQ 5 false] ++ Y := (Pl.frs _).app hY
      refine ⟨.inl rfl, [.c [.sl (some (2, 0)) 12 3 c, .i .i64 3], .c [.sl none 0 0 0, .i .i64 1], .c (frs [frQ 3 false, frQ 4 false, frQ 5 false] ++ Y)], by show [_, _, Blk.c (subs _ _)] = _; simp only [hz]; rfl, ?_⟩
      conv => whnf
      refine ACall.frameH [0, 2] [] rfl (args' := [.p (some (0, 0)), (frQ 4 false).av]) (Hc := [.c [.sl (some (1, 0)) 12 3 c, .i .i64 3], .c (frs [frQ 3 false, frQ 4 false, frQ 5 false] ++ Y)]) rfl (by show [_, Blk.c (subs _ _)] = _; rw [hz]; rfl) (qdrop_ok [frQ 3 false, frQ 4 false, frQ 5 false] (frQ 4 false) [frQ 3 false, frQ 5 false] 3 c Y hc hY hYl (by decide) (by kernel_rfl)) ?_
      clear hz
      rintro r H ⟨rfl, c, Y, hc, hY, hYl, rfl⟩
      have hz : ∀ φ, subs φ (frs [frQ 3 false, frQ 5 false] ++ Y) = frs [frQ 3 false, frQ 5 false] ++ Y := (Pl.frs _).app hY
      refine ⟨.inl rfl, [.c [.sl (some (2, 0)) 12 2 c, .i .i64 3], .c [.sl none 0 0 0, .i .i64 1], .c (frs [frQ 3 false, frQ 5 false] ++ Y)], by show [_, _, Blk.c (subs _ _)] = _; simp only [hz]; rfl, ?_⟩
      conv => whnf
      refine ACall.frameH [1] [] rfl (args' := [.p (some (0, 0)), (frQ 1 false).av]) (Hc := [.c [.sl none 0 0 0, .i .i64 1]]) rfl rfl (qput_nil (frQ 1 false) (okF 1) 1 (by omega)) ?_
      rintro r H ⟨rfl, hh⟩
      obtain ⟨_, e, Z, he, hZ, hZl, rfl⟩ := hh.resolve_right (fun h0 => h0.1 (by decide))
      have hz2 : ∀ φ, subs φ (frs [frQ 1 false] ++ Z) = frs [frQ 1 false] ++ Z := (Pl.frs _).app hZ
      rw [show (frQ 1 false).chk = 0 from by kernel_rfl]
      refine ⟨.inl rfl, [.c [.sl (some (2, 0)) 12 2 c, .i .i64 3], .c [.sl (some (3, 0)) 12 1 e, .i .i64 1], .c (frs [frQ 3 false, frQ 5 false] ++ Y), .c (frs [frQ 1 false] ++ Z)], by show [_, _, _, Blk.c (subs _ _)] = _; simp only [hz2]; rfl, ?_⟩
      conv => whnf
      refine ACall.frameH [0, 2] [] rfl (args' := [.p (some (0, 0))]) (Hc := [.c [.sl (some (1, 0)) 12 2 c, .i .i64 3], .c (frs [frQ 3 false, frQ 5 false] ++ Y)]) rfl (by show [_, Blk.c (subs _ _)] = _; rw [hz]; rfl) (qall_spec [frQ 3 false, frQ 5 false] 3 c Y hY (by decide)) ?_
      rintro r H ⟨g, hg, rfl, rfl⟩
      refine ⟨.inl rfl, [.c [.sl (some (2, 0)) 12 2 c, .i .i64 3], .c [.sl (some (3, 0)) 12 1 e, .i .i64 1], .c (frs [frQ 3 false, frQ 5 false] ++ Y), .c (frs [frQ 1 false] ++ Z), .c (frs [frQ 3 false, frQ 5 false])], by show [_, _, Blk.c (subs _ _), _, Blk.c (subs _ _)] = _; simp only [hz, subs_frs]; rfl, ?_⟩
      conv => whnf
      refine ACall.frameH [] [4, 5] rfl (args' := [.rs (frs [frQ 3 false, frQ 5 false]) 0 12 2, .rs (frs [frQ 3 false, frQ 5 false]) 0 12 2]) (Hc := []) rfl rfl (same_spec [frQ 3 false, frQ 5 false] [frQ 3 false, frQ 5 false] (by decide)) ?_
      rintro r H ⟨rfl, rfl⟩
      rw [decide_eq_true rfl]
      refine ⟨.inr ⟨rfl, rfl⟩, [.c [.sl (some (2, 0)) 12 2 c, .i .i64 3], .c [.sl (some (3, 0)) 12 1 e, .i .i64 1], .c (frs [frQ 3 false, frQ 5 false] ++ Y), .c (frs [frQ 1 false] ++ Z), .c (frs [frQ 3 false, frQ 5 false]), .c (frs [frQ 3 false, frQ 5 false])], rfl, ?_⟩
      conv => whnf
      refine ACall.frameH [1, 3] [] rfl (args' := [.p (some (0, 0)), (frQ 0 false).av]) (Hc := [.c [.sl (some (1, 0)) 12 1 e, .i .i64 1], .c (frs [frQ 1 false] ++ Z)]) rfl (by show [_, Blk.c (subs _ _)] = _; rw [hz2]; rfl) (qput_spec [frQ 1 false] (by intro X hX; simp only [List.mem_cons, List.not_mem_nil, or_false] at hX; all_goals (first | (rcases hX with rfl | rfl | rfl <;> exact okF _) | (rcases hX with rfl | rfl <;> exact okF _) | (subst hX; exact okF _))) (frQ 0 false) (okF 0) 1 e Z he hZ hZl (by decide)) ?_
      rw [show putE [frQ 1 false] (frQ 0 false) 1 = 15 from by kernel_rfl]
      rintro r H ⟨rfl, ⟨h0, _⟩ | ⟨_, e, Z, _, _, _, rfl⟩⟩
      · cases h0
      refine ⟨.inl rfl, _, rfl, ?_⟩
      conv => whnf
      exact GhR.sel [] rfl (GhR.of ⟨rfl, rfl⟩)
    · have hz : ∀ φ, subs φ (frs [frQ 3 false, frQ 4 false, frQ 5 false] ++ Y) = frs [frQ 3 false, frQ 4 false, frQ 5 false] ++ Y := (Pl.frs _).app hY
      refine ⟨.inl rfl, [.c [.sl (some (3, 0)) 12 3 c, .i .i64 3], .c [.sl none 0 0 0, .i .i64 1], .dead, .c (frs [frQ 3 false, frQ 4 false, frQ 5 false] ++ Y)], by show [_, _, _, Blk.c (subs _ _)] = _; simp only [hz]; rfl, ?_⟩
      conv => whnf
      refine ACall.frameH [0, 3] [] rfl (args' := [.p (some (0, 0)), (frQ 4 false).av]) (Hc := [.c [.sl (some (1, 0)) 12 3 c, .i .i64 3], .c (frs [frQ 3 false, frQ 4 false, frQ 5 false] ++ Y)]) rfl (by show [_, Blk.c (subs _ _)] = _; rw [hz]; rfl) (qdrop_ok [frQ 3 false, frQ 4 false, frQ 5 false] (frQ 4 false) [frQ 3 false, frQ 5 false] 3 c Y hc hY hYl (by decide) (by kernel_rfl)) ?_
      clear hz
      rintro r H ⟨rfl, c, Y, hc, hY, hYl, rfl⟩
      have hz : ∀ φ, subs φ (frs [frQ 3 false, frQ 5 false] ++ Y) = frs [frQ 3 false, frQ 5 false] ++ Y := (Pl.frs _).app hY
      refine ⟨.inl rfl, [.c [.sl (some (3, 0)) 12 2 c, .i .i64 3], .c [.sl none 0 0 0, .i .i64 1], .dead, .c (frs [frQ 3 false, frQ 5 false] ++ Y)], by show [_, _, _, Blk.c (subs _ _)] = _; simp only [hz]; rfl, ?_⟩
      conv => whnf
      refine ACall.frameH [1] [] rfl (args' := [.p (some (0, 0)), (frQ 1 false).av]) (Hc := [.c [.sl none 0 0 0, .i .i64 1]]) rfl rfl (qput_nil (frQ 1 false) (okF 1) 1 (by omega)) ?_
      rintro r H ⟨rfl, hh⟩
      obtain ⟨_, e, Z, he, hZ, hZl, rfl⟩ := hh.resolve_right (fun h0 => h0.1 (by decide))
      have hz2 : ∀ φ, subs φ (frs [frQ 1 false] ++ Z) = frs [frQ 1 false] ++ Z := (Pl.frs _).app hZ
      rw [show (frQ 1 false).chk = 0 from by kernel_rfl]
      refine ⟨.inl rfl, [.c [.sl (some (3, 0)) 12 2 c, .i .i64 3], .c [.sl (some (4, 0)) 12 1 e, .i .i64 1], .dead, .c (frs [frQ 3 false, frQ 5 false] ++ Y), .c (frs [frQ 1 false] ++ Z)], by show [_, _, _, _, Blk.c (subs _ _)] = _; simp only [hz2]; rfl, ?_⟩
      conv => whnf
      refine ACall.frameH [0, 3] [] rfl (args' := [.p (some (0, 0))]) (Hc := [.c [.sl (some (1, 0)) 12 2 c, .i .i64 3], .c (frs [frQ 3 false, frQ 5 false] ++ Y)]) rfl (by show [_, Blk.c (subs _ _)] = _; rw [hz]; rfl) (qall_spec [frQ 3 false, frQ 5 false] 3 c Y hY (by decide)) ?_
      rintro r H ⟨g, hg, rfl, rfl⟩
      refine ⟨.inl rfl, [.c [.sl (some (3, 0)) 12 2 c, .i .i64 3], .c [.sl (some (4, 0)) 12 1 e, .i .i64 1], .dead, .c (frs [frQ 3 false, frQ 5 false] ++ Y), .c (frs [frQ 1 false] ++ Z), .c (frs [frQ 3 false, frQ 5 false])], by show [_, _, _, Blk.c (subs _ _), _, Blk.c (subs _ _)] = _; simp only [hz, subs_frs]; rfl, ?_⟩
      conv => whnf
      refine ACall.frameH [] [5, 6] rfl (args' := [.rs (frs [frQ 3 false, frQ 5 false]) 0 12 2, .rs (frs [frQ 3 false, frQ 5 false]) 0 12 2]) (Hc := []) rfl rfl (same_spec [frQ 3 false, frQ 5 false] [frQ 3 false, frQ 5 false] (by decide)) ?_
      rintro r H ⟨rfl, rfl⟩
      rw [decide_eq_true rfl]
      refine ⟨.inr ⟨rfl, rfl⟩, [.c [.sl (some (3, 0)) 12 2 c, .i .i64 3], .c [.sl (some (4, 0)) 12 1 e, .i .i64 1], .dead, .c (frs [frQ 3 false, frQ 5 false] ++ Y), .c (frs [frQ 1 false] ++ Z), .c (frs [frQ 3 false, frQ 5 false]), .c (frs [frQ 3 false, frQ 5 false])], rfl, ?_⟩
      conv => whnf
      refine ACall.frameH [1, 4] [] rfl (args' := [.p (some (0, 0)), (frQ 0 false).av]) (Hc := [.c [.sl (some (1, 0)) 12 1 e, .i .i64 1], .c (frs [frQ 1 false] ++ Z)]) rfl (by show [_, Blk.c (subs _ _)] = _; rw [hz2]; rfl) (qput_spec [frQ 1 false] (by intro X hX; simp only [List.mem_cons, List.not_mem_nil, or_false] at hX; all_goals (first | (rcases hX with rfl | rfl | rfl <;> exact okF _) | (rcases hX with rfl | rfl <;> exact okF _) | (subst hX; exact okF _))) (frQ 0 false) (okF 0) 1 e Z he hZ hZl (by decide)) ?_
      rw [show putE [frQ 1 false] (frQ 0 false) 1 = 15 from by kernel_rfl]
      rintro r H ⟨rfl, ⟨h0, _⟩ | ⟨_, e, Z, _, _, _, rfl⟩⟩
      · cases h0
      refine ⟨.inl rfl, _, rfl, ?_⟩
      conv => whnf
      exact GhR.sel [] rfl (GhR.of ⟨rfl, rfl⟩)
  · have hz : ∀ φ, subs φ (frs [frQ 3 false, frQ 5 false] ++ Y) = frs [frQ 3 false, frQ 5 false] ++ Y := (Pl.frs _).app hY
    refine ⟨.inl rfl, [.c [.sl (some (3, 0)) 12 2 c, .i .i64 3], .c [.sl none 0 0 0, .i .i64 1], .dead, .c (frs [frQ 3 false, frQ 5 false] ++ Y)], by show [_, _, _, Blk.c (subs _ _)] = _; simp only [hz]; rfl, ?_⟩
    conv => whnf
    refine ACall.frameH [0, 3] [] rfl (args' := [.p (some (0, 0)), (frQ 4 false).av]) (Hc := [.c [.sl (some (1, 0)) 12 2 c, .i .i64 3], .c (frs [frQ 3 false, frQ 5 false] ++ Y)]) rfl (by show [_, Blk.c (subs _ _)] = _; rw [hz]; rfl) (qput_ok [frQ 3 false, frQ 5 false] (frQ 4 false) [frQ 3 false, frQ 4 false, frQ 5 false] (by intro X hX; simp only [List.mem_cons, List.not_mem_nil, or_false] at hX; all_goals (first | (rcases hX with rfl | rfl | rfl <;> exact okF _) | (rcases hX with rfl | rfl <;> exact okF _) | (subst hX; exact okF _))) (okF 4) 3 c Y hc hY hYl (by kernel_rfl) (by kernel_rfl)) ?_
    clear hz
    rintro r H ⟨rfl, ⟨c, Y, hc, hY, hYl, rfl⟩ | ⟨c, Y, hc, hY, hYl, rfl⟩⟩
    · have hz : ∀ φ, subs φ (frs [frQ 3 false, frQ 4 false, frQ 5 false] ++ Y) = frs [frQ 3 false, frQ 4 false, frQ 5 false] ++ Y := (Pl.frs _).app hY
      refine ⟨.inl rfl, [.c [.sl (some (3, 0)) 12 3 c, .i .i64 3], .c [.sl none 0 0 0, .i .i64 1], .dead, .c (frs [frQ 3 false, frQ 4 false, frQ 5 false] ++ Y)], by show [_, _, _, Blk.c (subs _ _)] = _; simp only [hz]; rfl, ?_⟩
      conv => whnf
      refine ACall.frameH [0, 3] [] rfl (args' := [.p (some (0, 0)), (frQ 4 false).av]) (Hc := [.c [.sl (some (1, 0)) 12 3 c, .i .i64 3], .c (frs [frQ 3 false, frQ 4 false, frQ 5 false] ++ Y)]) rfl (by show [_, Blk.c (subs _ _)] = _; rw [hz]; rfl) (qdrop_ok [frQ 3 false, frQ 4 false, frQ 5 false] (frQ 4 false) [frQ 3 false, frQ 5 false] 3 c Y hc hY hYl (by decide) (by kernel_rfl)) ?_
      clear hz
      rintro r H ⟨rfl, c, Y, hc, hY, hYl, rfl⟩
      have hz : ∀ φ, subs φ (frs [frQ 3 false, frQ 5 false] ++ Y) = frs [frQ 3 false, frQ 5 false] ++ Y := (Pl.frs _).app hY
      refine ⟨.inl rfl, [.c [.sl (some (3, 0)) 12 2 c, .i .i64 3], .c [.sl none 0 0 0, .i .i64 1], .dead, .c (frs [frQ 3 false, frQ 5 false] ++ Y)], by show [_, _, _, Blk.c (subs _ _)] = _; simp only [hz]; rfl, ?_⟩
      conv => whnf
      refine ACall.frameH [1] [] rfl (args' := [.p (some (0, 0)), (frQ 1 false).av]) (Hc := [.c [.sl none 0 0 0, .i .i64 1]]) rfl rfl (qput_nil (frQ 1 false) (okF 1) 1 (by omega)) ?_
      rintro r H ⟨rfl, hh⟩
      obtain ⟨_, e, Z, he, hZ, hZl, rfl⟩ := hh.resolve_right (fun h0 => h0.1 (by decide))
      have hz2 : ∀ φ, subs φ (frs [frQ 1 false] ++ Z) = frs [frQ 1 false] ++ Z := (Pl.frs _).app hZ
      rw [show (frQ 1 false).chk = 0 from by kernel_rfl]
      refine ⟨.inl rfl, [.c [.sl (some (3, 0)) 12 2 c, .i .i64 3], .c [.sl (some (4, 0)) 12 1 e, .i .i64 1], .dead, .c (frs [frQ 3 false, frQ 5 false] ++ Y), .c (frs [frQ 1 false] ++ Z)], by show [_, _, _, _, Blk.c (subs _ _)] = _; simp only [hz2]; rfl, ?_⟩
      conv => whnf
      refine ACall.frameH [0, 3] [] rfl (args' := [.p (some (0, 0))]) (Hc := [.c [.sl (some (1, 0)) 12 2 c, .i .i64 3], .c (frs [frQ 3 false, frQ 5 false] ++ Y)]) rfl (by show [_, Blk.c (subs _ _)] = _; rw [hz]; rfl) (qall_spec [frQ 3 false, frQ 5 false] 3 c Y hY (by decide)) ?_
      rintro r H ⟨g, hg, rfl, rfl⟩
      refine ⟨.inl rfl, [.c [.sl (some (3, 0)) 12 2 c, .i .i64 3], .c [.sl (some (4, 0)) 12 1 e, .i .i64 1], .dead, .c (frs [frQ 3 false, frQ 5 false] ++ Y), .c (frs [frQ 1 false] ++ Z), .c (frs [frQ 3 false, frQ 5 false])], by show [_, _, _, Blk.c (subs _ _), _, Blk.c (subs _ _)] = _; simp only [hz, subs_frs]; rfl, ?_⟩
      conv => whnf
      refine ACall.frameH [] [5, 6] rfl (args' := [.rs (frs [frQ 3 false, frQ 5 false]) 0 12 2, .rs (frs [frQ 3 false, frQ 5 false]) 0 12 2]) (Hc := []) rfl rfl (same_spec [frQ 3 false, frQ 5 false] [frQ 3 false, frQ 5 false] (by decide)) ?_
      rintro r H ⟨rfl, rfl⟩
      rw [decide_eq_true rfl]
      refine ⟨.inr ⟨rfl, rfl⟩, [.c [.sl (some (3, 0)) 12 2 c, .i .i64 3], .c [.sl (some (4, 0)) 12 1 e, .i .i64 1], .dead, .c (frs [frQ 3 false, frQ 5 false] ++ Y), .c (frs [frQ 1 false] ++ Z), .c (frs [frQ 3 false, frQ 5 false]), .c (frs [frQ 3 false, frQ 5 false])], rfl, ?_⟩
      conv => whnf
      refine ACall.frameH [1, 4] [] rfl (args' := [.p (some (0, 0)), (frQ 0 false).av]) (Hc := [.c [.sl (some (1, 0)) 12 1 e, .i .i64 1], .c (frs [frQ 1 false] ++ Z)]) rfl (by show [_, Blk.c (subs _ _)] = _; rw [hz2]; rfl) (qput_spec [frQ 1 false] (by intro X hX; simp only [List.mem_cons, List.not_mem_nil, or_false] at hX; all_goals (first | (rcases hX with rfl | rfl | rfl <;> exact okF _) | (rcases hX with rfl | rfl <;> exact okF _) | (subst hX; exact okF _))) (frQ 0 false) (okF 0) 1 e Z he hZ hZl (by decide)) ?_
      rw [show putE [frQ 1 false] (frQ 0 false) 1 = 15 from by kernel_rfl]
      rintro r H ⟨rfl, ⟨h0, _⟩ | ⟨_, e, Z, _, _, _, rfl⟩⟩
      · cases h0
      refine ⟨.inl rfl, _, rfl, ?_⟩
      conv => whnf
      exact GhR.sel [] rfl (GhR.of ⟨rfl, rfl⟩)
    · have hz : ∀ φ, subs φ (frs [frQ 3 false, frQ 4 false, frQ 5 false] ++ Y) = frs [frQ 3 false, frQ 4 false, frQ 5 false] ++ Y := (Pl.frs _).app hY
      refine ⟨.inl rfl, [.c [.sl (some (4, 0)) 12 3 c, .i .i64 3], .c [.sl none 0 0 0, .i .i64 1], .dead, .dead, .c (frs [frQ 3 false, frQ 4 false, frQ 5 false] ++ Y)], by show [_, _, _, _, Blk.c (subs _ _)] = _; simp only [hz]; rfl, ?_⟩
      conv => whnf
      refine ACall.frameH [0, 4] [] rfl (args' := [.p (some (0, 0)), (frQ 4 false).av]) (Hc := [.c [.sl (some (1, 0)) 12 3 c, .i .i64 3], .c (frs [frQ 3 false, frQ 4 false, frQ 5 false] ++ Y)]) rfl (by show [_, Blk.c (subs _ _)] = _; rw [hz]; rfl) (qdrop_ok [frQ 3 false, frQ 4 false, frQ 5 false] (frQ 4 false) [frQ 3 false, frQ 5 false] 3 c Y hc hY hYl (by decide) (by kernel_rfl)) ?_
      clear hz
      rintro r H ⟨rfl, c, Y, hc, hY, hYl, rfl⟩
      have hz : ∀ φ, subs φ (frs [frQ 3 false, frQ 5 false] ++ Y) = frs [frQ 3 false, frQ 5 false] ++ Y := (Pl.frs _).app hY
      refine ⟨.inl rfl, [.c [.sl (some (4, 0)) 12 2 c, .i .i64 3], .c [.sl none 0 0 0, .i .i64 1], .dead, .dead, .c (frs [frQ 3 false, frQ 5 false] ++ Y)], by show [_, _, _, _, Blk.c (subs _ _)] = _; simp only [hz]; rfl, ?_⟩
      conv => whnf
      refine ACall.frameH [1] [] rfl (args' := [.p (some (0, 0)), (frQ 1 false).av]) (Hc := [.c [.sl none 0 0 0, .i .i64 1]]) rfl rfl (qput_nil (frQ 1 false) (okF 1) 1 (by omega)) ?_
      rintro r H ⟨rfl, hh⟩
      obtain ⟨_, e, Z, he, hZ, hZl, rfl⟩ := hh.resolve_right (fun h0 => h0.1 (by decide))
      have hz2 : ∀ φ, subs φ (frs [frQ 1 false] ++ Z) = frs [frQ 1 false] ++ Z := (Pl.frs _).app hZ
      rw [show (frQ 1 false).chk = 0 from by kernel_rfl]
      refine ⟨.inl rfl, [.c [.sl (some (4, 0)) 12 2 c, .i .i64 3], .c [.sl (some (5, 0)) 12 1 e, .i .i64 1], .dead, .dead, .c (frs [frQ 3 false, frQ 5 false] ++ Y), .c (frs [frQ 1 false] ++ Z)], by show [_, _, _, _, _, Blk.c (subs _ _)] = _; simp only [hz2]; rfl, ?_⟩
      conv => whnf
      refine ACall.frameH [0, 4] [] rfl (args' := [.p (some (0, 0))]) (Hc := [.c [.sl (some (1, 0)) 12 2 c, .i .i64 3], .c (frs [frQ 3 false, frQ 5 false] ++ Y)]) rfl (by show [_, Blk.c (subs _ _)] = _; rw [hz]; rfl) (qall_spec [frQ 3 false, frQ 5 false] 3 c Y hY (by decide)) ?_
      rintro r H ⟨g, hg, rfl, rfl⟩
      refine ⟨.inl rfl, [.c [.sl (some (4, 0)) 12 2 c, .i .i64 3], .c [.sl (some (5, 0)) 12 1 e, .i .i64 1], .dead, .dead, .c (frs [frQ 3 false, frQ 5 false] ++ Y), .c (frs [frQ 1 false] ++ Z), .c (frs [frQ 3 false, frQ 5 false])], by show [_, _, _, _, Blk.c (subs _ _), _, Blk.c (subs _ _)] = _; simp only [hz, subs_frs]; rfl, ?_⟩
      conv => whnf
      refine ACall.frameH [] [6, 7] rfl (args' := [.rs (frs [frQ 3 false, frQ 5 false]) 0 12 2, .rs (frs [frQ 3 false, frQ 5 false]) 0 12 2]) (Hc := []) rfl rfl (same_spec [frQ 3 false, frQ 5 false] [frQ 3 false, frQ 5 false] (by decide)) ?_
      rintro r H ⟨rfl, rfl⟩
      rw [decide_eq_true rfl]
      refine ⟨.inr ⟨rfl, rfl⟩, [.c [.sl (some (4, 0)) 12 2 c, .i .i64 3], .c [.sl (some (5, 0)) 12 1 e, .i .i64 1], .dead, .dead, .c (frs [frQ 3 false, frQ 5 false] ++ Y), .c (frs [frQ 1 false] ++ Z), .c (frs [frQ 3 false, frQ 5 false]), .c (frs [frQ 3 false, frQ 5 false])], rfl, ?_⟩
      conv => whnf
      refine ACall.frameH [1, 5] [] rfl (args' := [.p (some (0, 0)), (frQ 0 false).av]) (Hc := [.c [.sl (some (1, 0)) 12 1 e, .i .i64 1], .c (frs [frQ 1 false] ++ Z)]) rfl (by show [_, Blk.c (subs _ _)] = _; rw [hz2]; rfl) (qput_spec [frQ 1 false] (by intro X hX; simp only [List.mem_cons, List.not_mem_nil, or_false] at hX; all_goals (first | (rcases hX with rfl | rfl | rfl <;> exact okF _) | (rcases hX with rfl | rfl <;> exact okF _) | (subst hX; exact okF _))) (frQ 0 false) (okF 0) 1 e Z he hZ hZl (by decide)) ?_
      rw [show putE [frQ 1 false] (frQ 0 false) 1 = 15 from by kernel_rfl]
      rintro r H ⟨rfl, ⟨h0, _⟩ | ⟨_, e, Z, _, _, _, rfl⟩⟩
      · cases h0
      refine ⟨.inl rfl, _, rfl, ?_⟩
      conv => whnf
      exact GhR.sel [] rfl (GhR.of ⟨rfl, rfl⟩)
end Go.AK
namespace Go.AK
open Go Go.RowKit Go.Proofs
set_option linter.unusedVariables false
set_option maxRecDepth 100000
theorem okT_acts : ∀ fuel, okT T fuel 22 = true
  | 0 => rfl
  | 1 => rfl
  | 2 => rfl
  | 3 => rfl
  | 4 => rfl
  | n + 5 => rfl
theorem WT_act : ∀ {fuel : Nat} {xs : List AV}, WT T fuel 33 xs → ∃ a : Bool × Fr, xs = .b a.1 :: a.2.cells ∧ a.2.ok
  | 0, _, h => h.elim
  | 1, xs, h => by
    obtain ⟨ys, zs, _, h1, _⟩ := (show WTs (WT T 0) [4, 25] xs from h)
    exact h1.elim
  | n + 2, xs, h => by
    obtain ⟨y0, z0, rfl, h0, h⟩ := (show WTs (WT T (n + 1)) [4, 25] xs from h)
    obtain ⟨y1, z1, rfl, h1, h⟩ := h
    obtain rfl := (show z1 = [] from h)
    obtain ⟨d, rfl⟩ := (show ∃ b, y0 = [.b b] from h0)
    obtain ⟨F, rfl, hF⟩ := WT_frame h1
    exact ⟨(d, F), rfl, hF⟩
theorem WTs_acts {n : Nat} : ∀ (m : Nat) (cs : List AV), WTs (WT T n) (List.replicate m 33) cs → ∃ L : List (Bool × Fr), cs = acs L ∧ L.length = m ∧ ∀ a ∈ L, a.2.ok
  | 0, cs, hc => ⟨[], (show cs = [] from hc), rfl, fun x hx => by cases hx⟩
  | m + 1, cs, hc => by
    rw [List.replicate_succ] at hc
    obtain ⟨ys, zs, rfl, h1, h2⟩ := hc
    obtain ⟨a, rfl, ha⟩ := WT_act h1
    obtain ⟨L, rfl, hl, hL⟩ := WTs_acts m zs h2
    refine ⟨a :: L, rfl, by simp [hl], fun y hy => ?_⟩
    rcases List.mem_cons.1 hy with rfl | hy
    · exact ha
    · exact hL y hy
theorem WT_acts : ∀ {fuel : Nat} {xs : List AV}, WT T fuel 22 xs → ∃ l : List (Bool × Fr), xs = [.rs (acs l) 0 13 l.length] ∧ l.length ≤ maxLen ∧ ∀ a ∈ l, a.2.ok
  | 0, _, h => h.elim
  | n + 1, xs, h => by
    obtain ⟨m, cs, hx, hm, hc⟩ := (show ∃ m cs, xs = [AV.rs cs 0 13 m] ∧ m ≤ maxLen ∧ WTs (WT T n) (List.replicate m 33) cs from h)
    obtain ⟨L, hL, hl, hw⟩ := WTs_acts m cs hc
    subst hL
    exact ⟨L, by rw [hx, hl], by omega, hw⟩
end Go.AK
namespace Go.AK
open Go Go.RowKit Go.Proofs
set_option linter.unusedVariables false
theorem fnd_lt {l : List Fr} {F : Fr} (h : F ∈ l) : fndF l F < l.length := by
  unfold fndF
  exact List.findIdx_lt_length_of_exists ⟨F, h, by simp⟩
theorem fnd_at {l : List Fr} {F : Fr} (h : fndF l F < l.length) : l[fndF l F] = F := by
  have := List.findIdx_getElem (w := h)
  simp only [decide_eq_true_eq] at this
  exact this.symm
theorem drop_erase (l : List Fr) (F : Fr) : dropL l F = l.erase F := by
  unfold dropL fndF
  induction l with
  | nil => rfl
  | cons G l ih =>
    rw [List.findIdx_cons, List.erase_cons]
    by_cases e : G = F
    · subst e; simp
    · have e2 : ¬ F = G := fun h => e h.symm
      simp [e, e2, ih]
def others (l : List Fr) (F : Fr) : List Fr := l.filter fun G => decide (¬ G = F)
theorem others_app (A B : List Fr) (F : Fr) : others (A ++ B) F = others A F ++ others B F := List.filter_append ..
theorem others_put (l : List Fr) (F : Fr) : others (putL l F) F = others l F := by
  unfold putL insF
  rw [others_app]
  have : others (F :: l.drop (posF l F)) F = others (l.drop (posF l F)) F := by unfold others; simp
  rw [this, ← others_app, List.take_append_drop]
theorem others_drop (l : List Fr) (F : Fr) : others (dropL l F) F = others l F := by
  rw [drop_erase]
  induction l with
  | nil => rfl
  | cons G l ih =>
    rw [List.erase_cons]
    by_cases e : G = F
    · subst e; simp [others]
    · simp only [beq_iff_eq, e, if_false]
      unfold others at ih ⊢
      rw [List.filter_cons, List.filter_cons, ih]
theorem count_put (l : List Fr) (F : Fr) : (putL l F).count F = l.count F + 1 := by
  unfold putL insF
  rw [List.count_append, List.count_cons_self, ← Nat.add_assoc, ← List.count_append, List.take_append_drop]
theorem count_drop {l : List Fr} {F : Fr} : (dropL l F).count F = l.count F - 1 := by
  rw [drop_erase, List.count_erase_self]
theorem others_none {l : List Fr} {F : Fr} (h : l.count F = 0) : others l F = l := by
  unfold others
  refine List.filter_eq_self.2 fun G hG => ?_
  have := List.count_eq_zero.1 h
  simp
  rintro rfl
  exact this hG
theorem drop_sub {l : List Fr} {F G : Fr} (h : G ∈ dropL l F) : G ∈ l := by rw [drop_erase] at h; exact List.mem_of_mem_erase h
theorem put_sub {l : List Fr} {F G : Fr} (h : G ∈ putL l F) : G = F ∨ G ∈ l := by
  unfold putL insF at h
  rcases List.mem_append.1 h with h | h
  · exact .inr (List.mem_of_mem_take h)
  · rcases List.mem_cons.1 h with h | h
    · exact .inl h
    · exact .inr (List.mem_of_mem_drop h)
theorem act_ok {l : List Fr} {a : Bool × Fr} {most : Int} (hl : ∀ F ∈ l, F.ok) (ha : a.2.ok) : ∀ F ∈ actL l most a, F.ok := fun F hF => by
  unfold actL at hF
  split at hF
  · split at hF
    · exact hl F (drop_sub hF)
    · exact hl F hF
  · split at hF
    · rcases put_sub hF with rfl | h
      · exact ha
      · exact hl F h
    · exact hl F hF
theorem act_len {l : List Fr} {a : Bool × Fr} {most : Int} (hl : (l.length : Int) ≤ most) : ((actL l most a).length : Int) ≤ most := by
  unfold actL
  split
  · split
    · have : (dropL l a.2).length ≤ l.length := by rw [drop_erase]; exact List.length_erase_le
      omega
    · exact hl
  · split
    · rename_i h
      unfold putE at h
      split at h
      · split at h
        · omega
        · rw [putL_length]; omega
      · omega
    · exact hl
theorem cut_frs (l : List Fr) (a n : Nat) : List.take (n * 12) (List.drop (0 + a * 12) (frs l)) = frs ((l.drop a).take n) := by
  rw [Nat.zero_add, frs_drop, frs_take]
/-- Where the first one stands, as far as it was looked. -/
def atI (l : List Fr) (f : Fr) (k : Nat) : Int := if f ∈ l.take k then (fndF l f : Nat) else -1
theorem atI_in {l : List Fr} {f : Fr} {k : Nat} (h : f ∈ l.take k) : atI l f k = (fndF l f : Nat) := if_pos h
theorem atI_out {l : List Fr} {f : Fr} {k : Nat} (h : ¬ f ∈ l.take k) : atI l f k = -1 := if_neg h
theorem mem_take_next {l : List Fr} {f : Fr} {k : Nat} (hk : k < l.length) : f ∈ l.take (k + 1) ↔ f ∈ l.take k ∨ l[k] = f := by
  rw [List.take_add_one, List.getElem?_eq_getElem hk, List.mem_append]
  simp [eq_comm]
theorem atI_stay {l : List Fr} {f : Fr} {k : Nat} (h : f ∈ l.take k) : atI l f (k + 1) = atI l f k := by
  have h2 : f ∈ l.take (k + 1) := by rw [List.take_add_one]; exact List.mem_append_left _ h
  rw [atI_in h, atI_in h2]
theorem atI_same {l : List Fr} {f : Fr} {k : Nat} (hk : k < l.length) (e : ¬ l[k] = f) : atI l f (k + 1) = atI l f k := by
  unfold atI
  by_cases h : f ∈ l.take k
  · rw [if_pos h, if_pos ((mem_take_next hk).2 (.inl h))]
  · rw [if_neg h, if_neg (fun h2 => ((mem_take_next hk).1 h2).elim h e)]
theorem atI_new {l : List Fr} {f : Fr} {k : Nat} (hk : k < l.length) (e : l[k] = f) (h : ¬ f ∈ l.take k) : atI l f (k + 1) = (k : Nat) := by
  rw [atI_in ((mem_take_next hk).2 (.inr e))]
  have : fndF l f = k := by
    unfold fndF
    refine (List.findIdx_eq hk).2 ⟨by simp [e], fun j hj => ?_⟩
    have hn : ¬ f = l[j] := fun e2 => h (by
      rw [e2, show l[j] = (l.take k)[j]'(by rw [List.length_take]; omega) from (List.getElem_take ..).symm]
      exact List.getElem_mem _)
    simp [hn]
  rw [this]
theorem count_take_in {l : List Fr} {f : Fr} {k : Nat} (hk : k < l.length) (e : l[k] = f) : (l.take (k + 1)).count f = (l.take k).count f + 1 := by
  rw [List.take_add_one, List.getElem?_eq_getElem hk, List.count_append]
  simp [e]
theorem count_take_out {l : List Fr} {f : Fr} {k : Nat} (hk : k < l.length) (e : ¬ l[k] = f) : (l.take (k + 1)).count f = (l.take k).count f := by
  rw [List.take_add_one, List.getElem?_eq_getElem hk, List.count_append]
  simp [e]
/-- The acts, one behind the other. -/
def actsL (most : Int) : List (Bool × Fr) → List Fr → List Fr
  | [], l => l
  | a :: A, l => actsL most A (actL l most a)
end Go.AK
namespace Go.AK
open Go Go.RowKit Go.Proofs
set_option linter.unusedVariables false
set_option maxRecDepth 100000
set_option maxHeartbeats 1000000 in
theorem lawDrops (A : List (Bool × Fr)) (hA : ∀ a ∈ A, a.2.ok) (f : Fr) (hf : f.ok) : ACall Try.prog 3 [.rs (acs A) 0 13 A.length, f.av] [] fun r H => r = .ret (.b true) ∧ H = [] := by
  refine ACall.gh ?_
  refine ACall.enter tok false Try.func3 rfl rfl rfl (AW_sound (ip := false) tok _ _ _ _ ?_)
  conv => whnf
  by_cases hl : (A.length : Int) > 60
  · refine acond_t (decide_eq_true hl) ?_
    conv => whnf
    refine ACall.frameH [] [] rfl (args' := []) (Hc := []) rfl rfl awake9_spec ?_
    rintro r H ⟨rfl, rfl⟩
    refine ⟨.inl rfl, _, rfl, ?_⟩
    conv => whnf
    exact GhR.sel [] rfl (GhR.of ⟨rfl, rfl⟩)
  · refine acond_f (decide_eq_false hl) ?_
    conv => whnf
    refine ACall.frameH [] [] rfl (args' := [.i .i64 16]) (Hc := []) rfl rfl (qnew_spec 16) ?_
    rintro r H (⟨h, _⟩ | ⟨_, _, rfl, rfl⟩)
    · omega
    refine ⟨.inl rfl, [.c f.cells, .c [.sl none 0 0 0, .i .i64 16]], rfl, ?_⟩
    conv => whnf
    refine ALoop.ind (ip := false) tok (fun m r H => ∃ (i : Nat) (l : List Fr), i ≤ A.length ∧ m = A.length - i ∧ l.length ≤ 16 ∧ (∀ F ∈ l, F.ok) ∧
      ((l = [] ∧ H = [.c f.cells, .c [.sl none 0 0 0, .i .i64 16]]) ∨ ∃ c Y, l.length ≤ c ∧ Pl Y ∧ Y.length = (c - l.length) * 12 ∧ H = [.c f.cells, .c [.sl (some (2, 0)) 12 l.length c, .i .i64 16], .c (frs l ++ Y)]) ∧
      r = [(7, .i .i64 i), (5, .p (some (1, 0))), (3, .p (some (0, 0))), (4, .b false), (0, .rs (acs A) 0 13 A.length)]) A.length ?_ ?_
    · exact Gh.regs [7, 5, 3, 4, 0] (Gh.of ⟨0, [], by omega, by omega, by simp, (fun F h => by cases h), .inl ⟨rfl, rfl⟩, rfl⟩)
    · rintro m r H ⟨i, l, hi, rfl, hl16, hok, hst, rfl⟩
      by_cases h1 : (i : Int) < A.length
      · have hil : i < A.length := by omega
        have ha := hA _ (List.getElem_mem hil)
        have hok2 := act_ok (most := 16) hok ha
        have hln2 : (actL l 16 A[i]).length ≤ 16 := by have := act_len (a := A[i]) (most := 16) (l := l) (by omega); omega
        rcases hst with ⟨rfl, rfl⟩ | ⟨c, Y, hc, hY, hYl, rfl⟩
        · conv => whnf
          refine acond_t (decide_eq_true h1) ?_
          conv => whnf
          refine ⟨⟨by omega, h1⟩, ?_⟩
          conv => whnf
          refine aget_act (k := i) (by omega) hil ?_
          conv => whnf
          refine ACall.frameH [1] [] rfl (args' := [.p (some (0, 0)), actAV A[i]]) (Hc := [.c [.sl none 0 0 0, .i .i64 16]]) rfl rfl (does_nil A[i] ha 16 (by omega)) ?_
          rintro r H ⟨rfl, ⟨hn, rfl⟩ | ⟨c, Y, hc, hY, hYl, rfl⟩⟩
          · refine ⟨.inl rfl, [.c f.cells, .c [.sl none 0 0 0, .i .i64 16]], rfl, ?_⟩
            conv => whnf
            refine Gh.regs [7, 5, 3, 4, 0] (Gh.of ⟨A.length - (i + 1), by omega, i + 1, [], by omega, rfl, by simp, (fun F h => by cases h), .inl ⟨rfl, rfl⟩, ?_⟩)
            rw [w64 (by omega) (by omega)]; rfl
          · have hz : ∀ φ, subs φ (frs (actL [] 16 A[i]) ++ Y) = frs (actL [] 16 A[i]) ++ Y := (Pl.frs _).app hY
            refine ⟨.inl rfl, [.c f.cells, .c [.sl (some (2, 0)) 12 (actL [] 16 A[i]).length c, .i .i64 16], .c (frs (actL [] 16 A[i]) ++ Y)], by show [_, _, Blk.c (subs _ _)] = _; simp only [hz]; rfl, ?_⟩
            conv => whnf
            refine Gh.regs [7, 5, 3, 4, 0] (Gh.of ⟨A.length - (i + 1), by omega, i + 1, actL [] 16 A[i], by omega, rfl, hln2, hok2, .inr ⟨c, Y, hc, hY, hYl, rfl⟩, ?_⟩)
            rw [w64 (by omega) (by omega)]; rfl
        · conv => whnf
          refine acond_t (decide_eq_true h1) ?_
          conv => whnf
          refine ⟨⟨by omega, h1⟩, ?_⟩
          conv => whnf
          refine aget_act (k := i) (by omega) hil ?_
          conv => whnf
          have hz0 : ∀ φ, subs φ (frs l ++ Y) = frs l ++ Y := (Pl.frs _).app hY
          refine ACall.frameH [1, 2] [] rfl (args' := [.p (some (0, 0)), actAV A[i]]) (Hc := [.c [.sl (some (1, 0)) 12 l.length c, .i .i64 16], .c (frs l ++ Y)]) rfl (by show [_, Blk.c (subs _ _)] = _; simp only [hz0]; rfl) (does_spec l hok A[i] ha 16 c Y hc hY hYl (by omega)) ?_
          clear hz0
          rintro r H ⟨rfl, ⟨c, Y, hc, hY, hYl, rfl⟩ | ⟨c, Y, hc, hY, hYl, rfl⟩⟩
          · have hz : ∀ φ, subs φ (frs (actL l 16 A[i]) ++ Y) = frs (actL l 16 A[i]) ++ Y := (Pl.frs _).app hY
            refine ⟨.inl rfl, [.c f.cells, .c [.sl (some (2, 0)) 12 (actL l 16 A[i]).length c, .i .i64 16], .c (frs (actL l 16 A[i]) ++ Y)], by show [_, _, Blk.c (subs _ _)] = _; simp only [hz]; rfl, ?_⟩
            conv => whnf
            refine Gh.regs [7, 5, 3, 4, 0] (Gh.of ⟨A.length - (i + 1), by omega, i + 1, actL l 16 A[i], by omega, rfl, hln2, hok2, .inr ⟨c, Y, hc, hY, hYl, rfl⟩, ?_⟩)
            rw [w64 (by omega) (by omega)]; rfl
          · have hz : ∀ φ, subs φ (frs (actL l 16 A[i]) ++ Y) = frs (actL l 16 A[i]) ++ Y := (Pl.frs _).app hY
            refine ⟨.inl rfl, [.c f.cells, .c [.sl (some (3, 0)) 12 (actL l 16 A[i]).length c, .i .i64 16], .dead, .c (frs (actL l 16 A[i]) ++ Y)], by show [_, _, _, Blk.c (subs _ _)] = _; simp only [hz]; rfl, ?_⟩
            conv => whnf
            refine Gh.regs [7, 5, 3, 4, 0] (Gh.sel [0, 1, 3] rfl (Gh.of ⟨A.length - (i + 1), by omega, i + 1, actL l 16 A[i], by omega, rfl, hln2, hok2, .inr ⟨c, Y, hc, hY, hYl, by show [_, _, Blk.c (subs _ _)] = _; simp only [hz]; rfl⟩, ?_⟩))
            refine keep_eq (show keepR _ _ = [_, _, _, _, _] from rfl) ?_
            simp only [subG, sub, subs_acs]
            rw [w64 (by omega) (by omega)]; rfl
      · have hil : i = A.length := by omega
        subst hil
        rcases hst with ⟨rfl, rfl⟩ | ⟨c, Y, hc, hY, hYl, rfl⟩
        · conv => whnf
          refine acond_f (decide_eq_false h1) ?_
          conv => whnf
          refine ACall.frameH [1] [] rfl (args' := [.p (some (0, 0))]) (Hc := [.c [.sl none 0 0 0, .i .i64 16]]) rfl rfl (qall_nil 16) ?_
          rintro r H ⟨rfl, rfl⟩
          refine ⟨.inl rfl, [.c f.cells, .c [.sl none 0 0 0, .i .i64 16]], rfl, ?_⟩
          conv => whnf
          refine ALoop.ind (ip := false) tok (fun m r H => H = [.c f.cells, .c [.sl none 0 0 0, .i .i64 16]] ∧ r = [(11, .i .i64 0), (10, .i .i64 (-1)), (9, .i .i64 0), (8, .sl none 0 0 0), (5, .p (some (1, 0))), (3, .p (some (0, 0))), (4, .b false)]) 0 ?_ ?_
          · exact Gh.regs [11, 10, 9, 8, 5, 3, 4] (Gh.of ⟨rfl, rfl⟩)
          · rintro m r H ⟨rfl, rfl⟩
            conv => whnf
            refine ACall.frameH [1] [] rfl (args' := [.p (some (0, 0))]) (Hc := [.c [.sl none 0 0 0, .i .i64 16]]) rfl rfl (qclone_nil 16) ?_
            rintro r H ⟨rfl, rfl⟩
            refine ⟨.inl rfl, [.c f.cells, .c [.sl none 0 0 0, .i .i64 16], .c [.sl none 0 0 0, .i .i64 16]], rfl, ?_⟩
            conv => whnf
            refine ACall.frameH [1] [] rfl (args' := [.p (some (0, 0)), f.av]) (Hc := [.c [.sl none 0 0 0, .i .i64 16]]) rfl rfl (qdrop_nil f 16) ?_
            rintro r H ⟨rfl, rfl⟩
            refine ⟨.inl rfl, [.c f.cells, .c [.sl none 0 0 0, .i .i64 16], .c [.sl none 0 0 0, .i .i64 16]], rfl, ?_⟩
            conv => whnf
            refine ACall.frameH [1] [] rfl (args' := [.p (some (0, 0))]) (Hc := [.c [.sl none 0 0 0, .i .i64 16]]) rfl rfl (qall_nil 16) ?_
            rintro r H ⟨rfl, rfl⟩
            refine ⟨.inl rfl, [.c f.cells, .c [.sl none 0 0 0, .i .i64 16], .c [.sl none 0 0 0, .i .i64 16]], rfl, ?_⟩
            conv => whnf
            refine ACall.frameH [] [] rfl (args' := [.sl none 0 0 0, .sl none 0 0 0]) (Hc := []) rfl rfl (ACall.args (same_spec [] [] (by simp)) (VLe.nilrs (VLe.nilrs VLe.nil))) ?_
            rintro r H ⟨rfl, rfl⟩
            rw [decide_eq_true rfl]
            refine ⟨.inl rfl, [.c f.cells, .c [.sl none 0 0 0, .i .i64 16], .c [.sl none 0 0 0, .i .i64 16]], rfl, ?_⟩
            conv => whnf
            refine ACall.frameH [2] [] rfl (args' := [.p (some (0, 0)), f.av]) (Hc := [.c [.sl none 0 0 0, .i .i64 16]]) rfl rfl (qput_nil f hf 16 (by omega)) ?_
            rintro r H ⟨rfl, ⟨hm, e, X, hp1, hp2, hp3, rfl⟩ | ⟨hm, rfl⟩⟩
            · have hzX : ∀ φ, subs φ (frs [f] ++ X) = frs [f] ++ X := (Pl.frs _).app hp2
              rw [Fr.good hm]
              refine ⟨.inl rfl, [.c f.cells, .c [.sl none 0 0 0, .i .i64 16], .c [.sl (some (3, 0)) 12 [f].length e, .i .i64 16], .c (frs [f] ++ X)], by show [_, _, _, Blk.c (subs _ _)] = _; simp only [hzX]; rfl, ?_⟩
              conv => whnf
              refine ALoop.ind (ip := false) tok (fun m r H => ∃ (i : Nat) (p : List Fr) (c : Nat) (Y : List AV), i ≤ [].count f + 1 ∧ m = [].count f + 1 - i ∧ p.count f = [].count f + 1 - i ∧ others p f = others [] f ∧ p.length < 1000000 ∧ p.length ≤ c ∧ Pl Y ∧ Y.length = (c - p.length) * 12 ∧ H = [.c f.cells, .c [.sl (some (2, 0)) 12 p.length c, .i .i64 16], .c (frs p ++ Y)] ∧
                r = [(16, .i .i64 i), (12, .p (some (1, 0))), (9, .i .i64 ([].count f : Nat)), (8, .sl none 0 0 0), (3, .p (some (0, 0))), (4, .b false)]) ([].count f + 1) ?_ ?_
              · refine Gh.regs [16, 12, 9, 8, 3, 4] (Gh.sel [0, 2, 3] rfl (Gh.of ⟨0, putL [] f, _, _, by omega, by omega, by rw [count_put]; rfl, others_put _ _, by rw [putL_length]; simp, hp1, hp2, hp3, by show [_, _, Blk.c (subs _ _)] = _; simp only [subs_frs, subs_app, hp2 _]; rfl, ?_⟩))
                refine keep_eq (show keepR _ _ = [_, _, _, _, _, _] from rfl) ?_
                skip
                rfl
              · rintro m r H ⟨i, p, c, Y, hi, rfl, hcp, hop, hpl, hc, hY, hYl, rfl, rfl⟩
                have hz : ∀ φ, subs φ (frs p ++ Y) = frs p ++ Y := (Pl.frs _).app hY
                by_cases h3 : (i : Int) ≤ ([].count f : Nat)
                · conv => whnf
                  refine acond_t (decide_eq_true h3) ?_
                  conv => whnf
                  have hmem : f ∈ p := List.count_pos_iff.1 (by omega)
                  refine ACall.frameH [1, 2] [] rfl (args' := [.p (some (0, 0)), f.av]) (Hc := [.c [.sl (some (1, 0)) 12 p.length c, .i .i64 16], .c (frs p ++ Y)]) rfl (by show [_, Blk.c (subs _ _)] = _; simp only [hz]; rfl) (qdrop_ok p f (dropL p f) 16 c Y hc hY hYl hmem rfl hpl) ?_
                  clear hz
                  rintro r H ⟨rfl, c2, Y2, k1, k2, k3, rfl⟩
                  have hz : ∀ φ, subs φ (frs (dropL p f) ++ Y2) = frs (dropL p f) ++ Y2 := (Pl.frs _).app k2
                  refine ⟨.inl rfl, [.c f.cells, .c [.sl (some (2, 0)) 12 (dropL p f).length c2, .i .i64 16], .c (frs (dropL p f) ++ Y2)], by show [_, _, Blk.c (subs _ _)] = _; simp only [hz]; rfl, ?_⟩
                  conv => whnf
                  have hcz : ([] : List Fr).count f = 0 := rfl
                  have hdl : (dropL p f).length ≤ p.length := by rw [drop_erase]; exact List.length_erase_le
                  refine Gh.regs [16, 12, 9, 8, 3, 4] (Gh.of ⟨[].count f + 1 - (i + 1), by omega, i + 1, dropL p f, c2, Y2, by omega, rfl, by rw [count_drop]; omega, by rw [others_drop]; exact hop, by omega, k1, k2, k3, rfl, ?_⟩)
                  rw [w64 (by omega) (by omega)]; rfl
                · have hi3 : i = [].count f + 1 := by omega
                  subst hi3
                  have hc0 : p.count f = 0 := by omega
                  have hpo : p = others [] f := by rw [← hop]; exact (others_none hc0).symm
                  have hnm : ¬ f ∈ p := fun h => by have := List.count_pos_iff.2 h; omega
                  conv => whnf
                  refine ALoop.ind (ip := false) tok (fun m r H => H = [.c f.cells, .c [.sl (some (2, 0)) 12 p.length c, .i .i64 16], .c (frs p ++ Y), .c (frs [])] ∧ r = [(18, .i .i64 0), (17, .sl (some (3, 0)) 12 0 0), (12, .p (some (1, 0))), (8, .sl none 0 0 0), (3, .p (some (0, 0))), (4, .b false)]) 0 ?_ ?_
                  · exact Gh.regs [18, 17, 12, 8, 3, 4] (Gh.of ⟨rfl, rfl⟩)
                  · rintro m r H ⟨rfl, rfl⟩
                    conv => whnf
                    refine ACall.frameH [1, 2] [] rfl (args' := [.p (some (0, 0)), f.av]) (Hc := [.c [.sl (some (1, 0)) 12 p.length c, .i .i64 16], .c (frs p ++ Y)]) rfl (by show [_, Blk.c (subs _ _)] = _; simp only [hz]; rfl) (qdrop_spec p f 16 c Y hc hY hYl hpl) ?_
                    clear hz
                    rintro r H (⟨hmm, _⟩ | ⟨_, rfl, c2, Y2, k1, k2, k3, rfl⟩)
                    · exact absurd hmm hnm
                    have hz : ∀ φ, subs φ (frs p ++ Y2) = frs p ++ Y2 := (Pl.frs _).app k2
                    refine ⟨.inl rfl, [.c f.cells, .c [.sl (some (2, 0)) 12 p.length c2, .i .i64 16], .c (frs p ++ Y2), .c (frs [])], by show [_, _, Blk.c (subs _ _), _] = _; simp only [hz]; rfl, ?_⟩
                    conv => whnf
                    refine ACall.frameH [1, 2] [] rfl (args' := [.p (some (0, 0))]) (Hc := [.c [.sl (some (1, 0)) 12 p.length c2, .i .i64 16], .c (frs p ++ Y2)]) rfl (by show [_, Blk.c (subs _ _)] = _; simp only [hz]; rfl) (qall_spec p 16 c2 Y2 k2 hpl) ?_
                    rintro r H ⟨g3, hg3, rfl, rfl⟩
                    refine ⟨.inl rfl, [.c f.cells, .c [.sl (some (2, 0)) 12 p.length c2, .i .i64 16], .c (frs p ++ Y2), .c (frs []), .c (frs p)], by show [_, _, Blk.c (subs _ _), _, Blk.c (subs _ _)] = _; simp only [hz, subs_frs]; rfl, ?_⟩
                    conv => whnf
                    refine ACall.frameH [] [4, 3] rfl (args' := [.rs (frs p) 0 12 p.length, .rs (frs ([] : List Fr)) 0 12 ([] : List Fr).length]) (Hc := []) (by show [AV.rs (subs _ (frs p)) 0 12 p.length, AV.rs (subs _ (frs ([] : List Fr))) 0 12 ([] : List Fr).length] = _; simp only [subs_frs]) rfl (same_spec p ([] : List Fr) (by omega)) ?_
                    rintro r H ⟨rfl, rfl⟩
                    rw [decide_eq_true (show p = ([] : List Fr) from by exact hpo)]
                    refine ⟨.inr ⟨rfl, rfl⟩, [.c f.cells, .c [.sl (some (2, 0)) 12 p.length c2, .i .i64 16], .c (frs p ++ Y2), .c (frs []), .c (frs p)], rfl, ?_⟩
                    conv => whnf
                    refine ACall.frameH [] [] rfl (args' := []) (Hc := []) rfl rfl awake9_spec ?_
                    rintro r H ⟨rfl, rfl⟩
                    refine ⟨.inl rfl, _, rfl, ?_⟩
                    conv => whnf
                    exact GhR.sel [] rfl (GhR.of ⟨rfl, rfl⟩)
            · rw [Fr.bad hm]
              refine ⟨.inl rfl, [.c f.cells, .c [.sl none 0 0 0, .i .i64 16], .c [.sl none 0 0 0, .i .i64 16]], rfl, ?_⟩
              conv => whnf
              refine ACall.frameH [2] [] rfl (args' := [.p (some (0, 0))]) (Hc := [.c [.sl none 0 0 0, .i .i64 16]]) rfl rfl (qall_nil 16) ?_
              rintro r H ⟨rfl, rfl⟩
              refine ⟨.inl rfl, [.c f.cells, .c [.sl none 0 0 0, .i .i64 16], .c [.sl none 0 0 0, .i .i64 16]], rfl, ?_⟩
              conv => whnf
              refine ACall.frameH [] [] rfl (args' := [.sl none 0 0 0, .sl none 0 0 0]) (Hc := []) rfl rfl (ACall.args (same_spec [] [] (by simp)) (VLe.nilrs (VLe.nilrs VLe.nil))) ?_
              rintro r H ⟨rfl, rfl⟩
              rw [decide_eq_true rfl]
              refine ⟨.inl rfl, [.c f.cells, .c [.sl none 0 0 0, .i .i64 16], .c [.sl none 0 0 0, .i .i64 16]], rfl, ?_⟩
              conv => whnf
              refine ACall.frameH [] [] rfl (args' := []) (Hc := []) rfl rfl awake9_spec ?_
              rintro r H ⟨rfl, rfl⟩
              refine ⟨.inl rfl, _, rfl, ?_⟩
              conv => whnf
              exact GhR.sel [] rfl (GhR.of ⟨rfl, rfl⟩)
        · have hzY : ∀ φ, subs φ (frs l ++ Y) = frs l ++ Y := (Pl.frs _).app hY
          have hfl := frs_length l
          conv => whnf
          refine acond_f (decide_eq_false h1) ?_
          conv => whnf
          refine ACall.frameH [1, 2] [] rfl (args' := [.p (some (0, 0))]) (Hc := [.c [.sl (some (1, 0)) 12 l.length c, .i .i64 16], .c (frs l ++ Y)]) rfl (by show [_, Blk.c (subs _ _)] = _; simp only [hzY]; rfl) (qall_spec l 16 c Y hY (by omega)) ?_
          rintro r H ⟨d, hd, rfl, rfl⟩
          refine ⟨.inl rfl, [.c f.cells, .c [.sl (some (2, 0)) 12 l.length c, .i .i64 16], .c (frs l ++ Y), .c (frs l)], by show [_, _, Blk.c (subs _ _), Blk.c (subs _ _)] = _; simp only [hzY, subs_frs]; rfl, ?_⟩
          conv => whnf
          refine ALoop.ind (ip := false) tok (fun m r H => ∃ (k : Nat), k ≤ l.length ∧ m = l.length - k ∧ H = [.c f.cells, .c [.sl (some (2, 0)) 12 l.length c, .i .i64 16], .c (frs l ++ Y), .c (frs l)] ∧
            r = [(11, .i .i64 k), (10, .i .i64 (atI l f k)), (9, .i .i64 ((l.take k).count f : Nat)), (8, .sl (some (3, 0)) 12 l.length d), (5, .p (some (1, 0))), (3, .p (some (0, 0))), (4, .b false)]) l.length ?_ ?_
          · exact Gh.regs [11, 10, 9, 8, 5, 3, 4] (Gh.of ⟨0, by omega, by omega, rfl, rfl⟩)
          · rintro m r H ⟨k, hk, rfl, rfl, rfl⟩
            have hck : (l.take k).count f ≤ k := Nat.le_trans List.count_le_length (by rw [List.length_take]; omega)
            by_cases h2 : (k : Int) < l.length
            · have hkl : k < l.length := by omega
              conv => whnf
              refine acond_t (decide_eq_true h2) ?_
              conv => whnf
              refine ADraw.of tok mixed false [0, 1, 2, 3, 4, 5] [] (by kernel_rfl) (fun _ _ _ _ h => h) ?_
              conv => whnf
              refine ⟨⟨by omega, h2⟩, ?_⟩
              conv => whnf
              refine aget_fr (k := k) (by omega) hkl ?_
              conv => whnf
              refine ⟨flatFrame, ?_⟩
              conv => whnf
              by_cases e : l[k] = f
              · have hc1 := count_take_in hkl e
                refine acond_t (by rw [fr_eq, decide_eq_true e]) ?_
                conv => whnf
                by_cases hm : f ∈ l.take k
                · refine acond_f (decide_eq_false (by rw [atI_in hm]; omega)) ?_
                  conv => whnf
                  refine Gh.regs [11, 10, 9, 8, 5, 3, 4] (Gh.of ⟨l.length - (k + 1), by omega, k + 1, by omega, rfl, rfl, ?_⟩)
                  rw [hc1, atI_stay hm, w64 (by omega) (by omega), w64 (by omega) (by omega)]; rfl
                · refine acond_t (decide_eq_true (by rw [atI_out hm]; omega)) ?_
                  conv => whnf
                  refine Gh.regs [11, 10, 9, 8, 5, 3, 4] (Gh.of ⟨l.length - (k + 1), by omega, k + 1, by omega, rfl, rfl, ?_⟩)
                  rw [hc1, atI_new hkl e hm, w64 (by omega) (by omega), w64 (by omega) (by omega)]; rfl
              · refine acond_f (by rw [fr_eq, decide_eq_false e]) ?_
                conv => whnf
                refine Gh.regs [11, 10, 9, 8, 5, 3, 4] (Gh.of ⟨l.length - (k + 1), by omega, k + 1, by omega, rfl, rfl, ?_⟩)
                rw [count_take_out hkl e, atI_same hkl e, w64 (by omega) (by omega)]; rfl
            · have hkl : k = l.length := by omega
              subst hkl
              conv => whnf
              refine acond_f (decide_eq_false h2) ?_
              conv => whnf
              have hcnt : (l.take l.length).count f = l.count f := by rw [List.take_length]
              refine ACall.frameH [1, 2] [] rfl (args' := [.p (some (0, 0))]) (Hc := [.c [.sl (some (1, 0)) 12 l.length c, .i .i64 16], .c (frs l ++ Y)]) rfl (by show [_, Blk.c (subs _ _)] = _; simp only [hzY]; rfl) (qclone_spec l 16 c Y hc hY (by omega)) ?_
              rintro r H ⟨d2, Z, hd2, hZ, hZl, rfl, rfl⟩
              have hzZ : ∀ φ, subs φ (frs l ++ Z) = frs l ++ Z := (Pl.frs _).app hZ
              refine ⟨.inl rfl, [.c f.cells, .c [.sl (some (2, 0)) 12 l.length c, .i .i64 16], .c (frs l ++ Y), .c (frs l), .c [.sl (some (5, 0)) 12 l.length d2, .i .i64 16], .c (frs l ++ Z)], by show [_, _, Blk.c (subs _ _), _, _, Blk.c (subs _ _)] = _; simp only [hzY, hzZ]; rfl, ?_⟩
              conv => whnf
              refine ACall.frameH [1, 2] [] rfl (args' := [.p (some (0, 0)), f.av]) (Hc := [.c [.sl (some (1, 0)) 12 l.length c, .i .i64 16], .c (frs l ++ Y)]) rfl (by show [_, Blk.c (subs _ _)] = _; simp only [hzY]; rfl) (qdrop_spec l f 16 c Y hc hY hYl (by omega)) ?_
              clear hzY
              rintro r H (⟨hm, rfl, c1, Y1, k1, k2, k3, rfl⟩ | ⟨hm, rfl, c1, Y1, k1, k2, k3, rfl⟩)
              · have hz1 : ∀ φ, subs φ (frs (dropL l f) ++ Y1) = frs (dropL l f) ++ Y1 := (Pl.frs _).app k2
                refine ⟨.inl rfl, [.c f.cells, .c [.sl (some (2, 0)) 12 (dropL l f).length c1, .i .i64 16], .c (frs (dropL l f) ++ Y1), .c (frs l), .c [.sl (some (5, 0)) 12 l.length d2, .i .i64 16], .c (frs l ++ Z)], by show [_, _, Blk.c (subs _ _), _, _, _] = _; simp only [hz1]; rfl, ?_⟩
                conv => whnf
                have hpos := List.count_pos_iff.2 hm
                refine acond_f (beq_eq_false_iff_ne.2 (by rw [hcnt]; omega)) ?_
                conv => whnf
                have hfl2 := fnd_lt hm
                have hat : atI l f l.length = (fndF l f : Nat) := atI_in (by rw [List.take_length]; exact hm)
                have hw : IntKind.i64.wrap (atI l f l.length + 1) = ((fndF l f + 1 : Nat) : Int) := by rw [hat, w64 (by omega) (by omega)]; omega
                have hat2 : (atI l f l.length).toNat = fndF l f := by rw [hat]; omega
                refine ADraw.of tok mixed false [1, 2, 3, 5, 6, 7, 8] [0, 4, 9, 10] (by kernel_rfl) (fun _ _ _ _ h => h) ?_
                conv => whnf
                refine ⟨⟨by rw [hat]; omega, by rw [hat]; omega⟩, ?_⟩
                conv => whnf
                refine ⟨⟨by rw [hw]; omega, by rw [hw]; omega⟩, ?_⟩
                conv => whnf
                refine ⟨(show 0 ≤ _ from Nat.zero_le _), ?_⟩
                conv => whnf
                refine ⟨by rw [hat2]; dsimp only; omega, ?_⟩
                conv => whnf
                have hN1 : List.take ((fndF l f - 0) * 12) (List.drop (0 + 0 * 12) (frs l)) = frs (l.take (fndF l f)) := by rw [cut_frs]; rfl
                have hN2 : List.take ((l.length - (fndF l f + 1)) * 12) (List.drop (0 + (fndF l f + 1) * 12) (frs l)) = frs (l.drop (fndF l f + 1)) := by
                  rw [cut_frs, List.take_of_length_le (by rw [List.length_drop]; omega)]
                refine ⟨by rw [hat2]; show ones (List.take ((fndF l f - 0) * 12) (List.drop (0 + 0 * 12) (frs l))) = true; rw [hN1]; exact ones_frs _, by rw [hat2]; dsimp only; omega, by rw [hat2]; omega, fun g1 hg1 => ?_⟩
                conv => whnf
                have hA1 : List.take (0 * 12) (List.drop 0 (List.replicate 0 z12).flatten) ++ List.take ((fndF l f - 0) * 12) (List.drop (0 + 0 * 12) (frs l)) = frs (l.take (fndF l f)) := by rw [hN1]; simp
                have lA1 := frs_length (l.take (fndF l f))
                rw [List.length_take] at lA1
                refine ⟨by
                  rw [hat2]
                  show 0 + (0 + (fndF l f - 0)) * 12 ≤ (List.take (0 * 12) (List.drop 0 (List.replicate 0 z12).flatten) ++ List.take ((fndF l f - 0) * 12) (List.drop (0 + 0 * 12) (frs l))).length
                  rw [hA1, lA1]; omega, ?_⟩
                conv => whnf
                refine ⟨by rw [hw]; dsimp only; omega, ?_⟩
                conv => whnf
                refine ⟨by rw [hw]; show ones (List.take ((l.length - (fndF l f + 1)) * 12) (List.drop (0 + (fndF l f + 1) * 12) (frs l))) = true; rw [hN2]; exact ones_frs _, by rw [hat2, hw]; dsimp only; omega, by rw [hat2, hw]; omega, fun g2 hg2 => ?_⟩
                conv => whnf
                have hC : List.take ((0 + (fndF l f - 0)) * 12) (List.drop 0 (List.take (0 * 12) (List.drop 0 (List.replicate 0 z12).flatten) ++ List.take ((fndF l f - 0) * 12) (List.drop (0 + 0 * 12) (frs l)))) ++ List.take ((l.length - (fndF l f + 1)) * 12) (List.drop (0 + (fndF l f + 1) * 12) (frs l)) = frs (dropL l f) := by
                  rw [hA1, hN2, List.drop_zero, List.take_of_length_le (by rw [lA1]; omega), ← frs_append, ← List.eraseIdx_eq_take_drop_succ]
                  rfl
                have hdlen : (dropL l f).length = l.length - 1 := List.length_eraseIdx_of_lt hfl2
                refine ACall.frameH [1, 2] [] rfl (args' := [.p (some (0, 0))]) (Hc := [.c [.sl (some (1, 0)) 12 (dropL l f).length c1, .i .i64 16], .c (frs (dropL l f) ++ Y1)]) rfl (by show [_, Blk.c (subs _ _)] = _; simp only [hz1]; rfl) (qall_spec (dropL l f) 16 c1 Y1 k2 (by omega)) ?_
                rintro r H ⟨g3, hg3, rfl, rfl⟩
                refine ⟨.inl rfl, [.c f.cells, .c [.sl (some (2, 0)) 12 (dropL l f).length c1, .i .i64 16], .c (frs (dropL l f) ++ Y1), .c (frs l), .c [.sl (some (5, 0)) 12 l.length d2, .i .i64 16], .c (frs l ++ Z), .dead, .dead, .c (frs (dropL l f)), .c (frs (dropL l f))], by show [_, _, Blk.c (subs _ _), _, _, _, _, _, Blk.c (List.take ((0 + ((atI l f l.length).toNat - 0)) * 12) (List.drop 0 (List.take (0 * 12) (List.drop 0 (List.replicate 0 z12).flatten) ++ List.take (((atI l f l.length).toNat - 0) * 12) (List.drop (0 + 0 * 12) (frs l)))) ++ List.take ((l.length - (IntKind.i64.wrap (atI l f l.length + 1)).toNat) * 12) (List.drop (0 + (IntKind.i64.wrap (atI l f l.length + 1)).toNat * 12) (frs l))), Blk.c (subs _ _)] = _; rw [hat2, hw]; show [_, _, Blk.c (subs _ _), _, _, _, _, _, Blk.c (List.take ((0 + (fndF l f - 0)) * 12) (List.drop 0 (List.take (0 * 12) (List.drop 0 (List.replicate 0 z12).flatten) ++ List.take ((fndF l f - 0) * 12) (List.drop (0 + 0 * 12) (frs l)))) ++ List.take ((l.length - (fndF l f + 1)) * 12) (List.drop (0 + (fndF l f + 1) * 12) (frs l))), Blk.c (subs _ _)] = _; rw [hC]; simp only [hz1, subs_frs]; rfl, ?_⟩
                conv => whnf
                refine ACall.frameH [] [9, 8] rfl (args' := [.rs (frs (dropL l f)) 0 12 (dropL l f).length, .rs (frs (dropL l f)) 0 12 (dropL l f).length]) (Hc := []) (by rw [hat2, hw]; show [AV.rs (subs _ (frs (dropL l f))) 0 12 (dropL l f).length, AV.rs (subs _ (frs (dropL l f))) 0 12 (0 + (fndF l f - 0) + (l.length - (fndF l f + 1)))] = _; rw [show 0 + (fndF l f - 0) + (l.length - (fndF l f + 1)) = (dropL l f).length from by omega]; simp only [subs_frs]) rfl (same_spec (dropL l f) (dropL l f) (by omega)) ?_
                rintro r H ⟨rfl, rfl⟩
                rw [decide_eq_true rfl]
                refine ⟨.inr ⟨rfl, rfl⟩, [.c f.cells, .c [.sl (some (2, 0)) 12 (dropL l f).length c1, .i .i64 16], .c (frs (dropL l f) ++ Y1), .c (frs l), .c [.sl (some (5, 0)) 12 l.length d2, .i .i64 16], .c (frs l ++ Z), .dead, .dead, .c (frs (dropL l f)), .c (frs (dropL l f))], rfl, ?_⟩
                conv => whnf
                have hE : putE l f 16 = 0 ∨ putE l f 16 = 14 ∨ (putE l f 16 = 15 ∧ l.length = 16) := by
                  unfold putE
                  split
                  · split
                    · right; right; exact ⟨rfl, by omega⟩
                    · left; rfl
                  · right; left; rfl
                have hput := qput_spec l hok f hf 16 d2 Z hd2 hZ hZl (by omega)
                rcases hE with hE | hE | ⟨hE, h16⟩ <;> rw [hE] at hput
                · refine ACall.frameH [4, 5] [] rfl (args' := [.p (some (0, 0)), f.av]) (Hc := [.c [.sl (some (1, 0)) 12 l.length d2, .i .i64 16], .c (frs l ++ Z)]) rfl (by show [_, Blk.c (subs _ _)] = _; simp only [hzZ]; rfl) hput ?_
                  rintro r H ⟨rfl, ⟨_, ⟨e, X, hp1, hp2, hp3, rfl⟩ | ⟨e, X, hp1, hp2, hp3, rfl⟩⟩ | ⟨h0, _⟩⟩
                  · have hzX : ∀ φ, subs φ (frs (putL l f) ++ X) = frs (putL l f) ++ X := (Pl.frs _).app hp2
                    refine ⟨.inl rfl, [.c f.cells, .c [.sl (some (2, 0)) 12 (dropL l f).length c1, .i .i64 16], .c (frs (dropL l f) ++ Y1), .c (frs l), .c [.sl (some (5, 0)) 12 (putL l f).length e, .i .i64 16], .c (frs (putL l f) ++ X), .dead, .dead, .c (frs (dropL l f)), .c (frs (dropL l f))], by show [_, _, _, _, _, Blk.c (subs _ _), _, _, _, _] = _; simp only [hzX]; rfl, ?_⟩
                    conv => whnf
                    refine ALoop.ind (ip := false) tok (fun m r H => ∃ (i : Nat) (p : List Fr) (c : Nat) (Y : List AV), i ≤ l.count f + 1 ∧ m = l.count f + 1 - i ∧ p.count f = l.count f + 1 - i ∧ others p f = others l f ∧ p.length < 1000000 ∧ p.length ≤ c ∧ Pl Y ∧ Y.length = (c - p.length) * 12 ∧ H = [.c f.cells, .c (frs l), .c [.sl (some (3, 0)) 12 p.length c, .i .i64 16], .c (frs p ++ Y)] ∧
                      r = [(16, .i .i64 i), (12, .p (some (2, 0))), (9, .i .i64 (l.count f : Nat)), (8, .sl (some (1, 0)) 12 l.length d), (3, .p (some (0, 0))), (4, .b false)]) (l.count f + 1) ?_ ?_
                    · refine Gh.regs [16, 12, 9, 8, 3, 4] (Gh.sel [0, 3, 4, 5] rfl (Gh.of ⟨0, putL l f, _, _, by omega, by omega, by rw [count_put]; rfl, others_put _ _, by rw [putL_length]; omega, hp1, hp2, hp3, by show [_, Blk.c (subs _ _), _, Blk.c (subs _ _)] = _; simp only [subs_frs, subs_app, hp2 _]; rfl, ?_⟩))
                      refine keep_eq (show keepR _ _ = [_, _, _, _, _, _] from rfl) ?_
                      simp only [subG, sub, List.take_length]
                      rfl
                    · rintro m r H ⟨i, p, c, Y, hi, rfl, hcp, hop, hpl, hc, hY, hYl, rfl, rfl⟩
                      have hz : ∀ φ, subs φ (frs p ++ Y) = frs p ++ Y := (Pl.frs _).app hY
                      by_cases h3 : (i : Int) ≤ (l.count f : Nat)
                      · conv => whnf
                        refine acond_t (decide_eq_true h3) ?_
                        conv => whnf
                        have hmem : f ∈ p := List.count_pos_iff.1 (by omega)
                        refine ACall.frameH [2, 3] [] rfl (args' := [.p (some (0, 0)), f.av]) (Hc := [.c [.sl (some (1, 0)) 12 p.length c, .i .i64 16], .c (frs p ++ Y)]) rfl (by show [_, Blk.c (subs _ _)] = _; simp only [hz]; rfl) (qdrop_ok p f (dropL p f) 16 c Y hc hY hYl hmem rfl hpl) ?_
                        clear hz
                        rintro r H ⟨rfl, c2, Y2, k1, k2, k3, rfl⟩
                        have hz : ∀ φ, subs φ (frs (dropL p f) ++ Y2) = frs (dropL p f) ++ Y2 := (Pl.frs _).app k2
                        refine ⟨.inl rfl, [.c f.cells, .c (frs l), .c [.sl (some (3, 0)) 12 (dropL p f).length c2, .i .i64 16], .c (frs (dropL p f) ++ Y2)], by show [_, _, _, Blk.c (subs _ _)] = _; simp only [hz]; rfl, ?_⟩
                        conv => whnf
                        have hdl : (dropL p f).length ≤ p.length := by rw [drop_erase]; exact List.length_erase_le
                        refine Gh.regs [16, 12, 9, 8, 3, 4] (Gh.of ⟨l.count f + 1 - (i + 1), by omega, i + 1, dropL p f, c2, Y2, by omega, rfl, by rw [count_drop]; omega, by rw [others_drop]; exact hop, by omega, k1, k2, k3, rfl, ?_⟩)
                        rw [w64 (by omega) (by omega)]; rfl
                      · have hi3 : i = l.count f + 1 := by omega
                        subst hi3
                        have hc0 : p.count f = 0 := by omega
                        have hpo : p = others l f := by rw [← hop]; exact (others_none hc0).symm
                        have hnm : ¬ f ∈ p := fun h => by have := List.count_pos_iff.2 h; omega
                        conv => whnf
                        refine acond_f (decide_eq_false h3) ?_
                        conv => whnf
                        refine ALoop.ind (ip := false) tok (fun m r H => ∃ (k g : Nat), k ≤ l.length ∧ m = l.length - k ∧ (others (l.take k) f).length ≤ g ∧ H = [.c f.cells, .c (frs l), .c [.sl (some (3, 0)) 12 p.length c, .i .i64 16], .c (frs p ++ Y), .c (frs (others (l.take k) f))] ∧
                          r = [(18, .i .i64 k), (17, .sl (some (4, 0)) 12 (others (l.take k) f).length g), (12, .p (some (2, 0))), (8, .sl (some (1, 0)) 12 l.length d), (3, .p (some (0, 0))), (4, .b false)]) l.length ?_ ?_
                        · exact Gh.regs [18, 17, 12, 8, 3, 4] (Gh.of ⟨0, 0, by omega, by omega, Nat.le_refl _, rfl, rfl⟩)
                        · rintro m r H ⟨k, g, hk, rfl, hg, rfl, rfl⟩
                          have hlk : (others (l.take k) f).length ≤ k := Nat.le_trans (List.length_filter_le _ _) (by rw [List.length_take]; omega)
                          have hfo := frs_length (others (l.take k) f)
                          by_cases h4 : (k : Int) < l.length
                          · have hkl : k < l.length := by omega
                            have hst : others (l.take (k + 1)) f = others (l.take k) f ++ (if l[k] = f then [] else [l[k]]) := by
                              rw [List.take_add_one, List.getElem?_eq_getElem hkl, others_app]
                              congr 1
                              show others [l[k]] f = _
                              unfold others
                              by_cases e : l[k] = f
                              · simp [e]
                              · simp [e]
                            conv => whnf
                            refine acond_t (decide_eq_true h4) ?_
                            conv => whnf
                            refine ADraw.of tok mixed false [0, 1, 2, 3, 4, 5] [] (by kernel_rfl) (fun _ _ _ _ h => h) ?_
                            conv => whnf
                            refine ⟨⟨by omega, h4⟩, ?_⟩
                            conv => whnf
                            refine aget_fr (k := k) (by omega) hkl ?_
                            conv => whnf
                            refine ⟨flatFrame, ?_⟩
                            conv => whnf
                            by_cases e : l[k] = f
                            · rw [if_pos e, List.append_nil] at hst
                              refine acond_f (by rw [fr_eq, decide_eq_true e]; rfl) ?_
                              conv => whnf
                              refine Gh.regs [18, 17, 12, 8, 3, 4] (Gh.of ⟨l.length - (k + 1), by omega, k + 1, g, by omega, rfl, by rw [hst]; exact hg, by rw [hst], ?_⟩)
                              rw [hst, w64 (by omega) (by omega)]; rfl
                            · rw [if_neg e] at hst
                              refine acond_t (by rw [fr_eq, decide_eq_false e]; rfl) ?_
                              conv => whnf
                              refine ⟨⟨by omega, h4⟩, ?_⟩
                              conv => whnf
                              refine aget_fr (k := k) (by omega) hkl ?_
                              conv => whnf
                              refine ⟨by dsimp only; omega, ?_⟩
                              conv => whnf
                              refine ⟨by show 12 ≤ (12 : Nat); omega, ?_⟩
                              conv => whnf
                              refine ⟨rfl, by (try dsimp only); omega, by omega, fun g2 hg2 => ?_⟩
                              conv => whnf
                              refine Gh.regs [18, 17, 12, 8, 3, 4] (Gh.sel [0, 1, 2, 3, 6] rfl (Gh.of ⟨l.length - (k + 1), by omega, k + 1, g2, by omega, rfl, by rw [hst, List.length_append]; exact hg2, ?_, ?_⟩))
                              · rw [hst]
                                have hAq : List.take ((others (l.take k) f).length * 12) (List.drop 0 (frs (others (l.take k) f))) ++ (l[k]).cells = frs (others (l.take k) f ++ [l[k]]) := by
                                  rw [List.drop_zero, List.take_of_length_le (by omega), ← frs_one, ← frs_append]
                                show [_, Blk.c (subs _ (frs _)), _, Blk.c (subs _ _), Blk.c (subs _ (List.take ((others (l.take k) f).length * 12) (List.drop 0 (frs (others (l.take k) f))) ++ (l[k]).cells))] = _
                                rw [hAq]
                                simp only [subs_frs, hz]
                                rfl
                              · rw [hst]
                                refine keep_eq (show keepR _ _ = [_, _, _, _, _, _] from rfl) ?_
                                simp only [subG, sub, List.length_append, List.length_singleton]
                                rw [w64 (by omega) (by omega)]; rfl
                          · have hkl : k = l.length := by omega
                            subst hkl
                            rw [List.take_length] at hlk hfo hg
                            conv => whnf
                            refine acond_f (decide_eq_false h4) ?_
                            conv => whnf
                            refine ACall.frameH [2, 3] [] rfl (args' := [.p (some (0, 0)), f.av]) (Hc := [.c [.sl (some (1, 0)) 12 p.length c, .i .i64 16], .c (frs p ++ Y)]) rfl (by show [_, Blk.c (subs _ _)] = _; simp only [hz]; rfl) (qdrop_spec p f 16 c Y hc hY hYl hpl) ?_
                            clear hz
                            rintro r H (⟨hmm, _⟩ | ⟨_, rfl, c2, Y2, k1, k2, k3, rfl⟩)
                            · exact absurd hmm hnm
                            have hz : ∀ φ, subs φ (frs p ++ Y2) = frs p ++ Y2 := (Pl.frs _).app k2
                            refine ⟨.inl rfl, [.c f.cells, .c (frs l), .c [.sl (some (3, 0)) 12 p.length c2, .i .i64 16], .c (frs p ++ Y2), .c (frs (others (l.take l.length) f))], by show [_, _, _, Blk.c (subs _ _), _] = _; simp only [hz]; rfl, ?_⟩
                            conv => whnf
                            refine ACall.frameH [2, 3] [] rfl (args' := [.p (some (0, 0))]) (Hc := [.c [.sl (some (1, 0)) 12 p.length c2, .i .i64 16], .c (frs p ++ Y2)]) rfl (by show [_, Blk.c (subs _ _)] = _; simp only [hz]; rfl) (qall_spec p 16 c2 Y2 k2 hpl) ?_
                            rintro r H ⟨g3, hg3, rfl, rfl⟩
                            refine ⟨.inl rfl, [.c f.cells, .c (frs l), .c [.sl (some (3, 0)) 12 p.length c2, .i .i64 16], .c (frs p ++ Y2), .c (frs (others (l.take l.length) f)), .c (frs p)], by show [_, _, _, Blk.c (subs _ _), _, Blk.c (subs _ _)] = _; simp only [hz, subs_frs]; rfl, ?_⟩
                            conv => whnf
                            refine ACall.frameH [] [5, 4] rfl (args' := [.rs (frs p) 0 12 p.length, .rs (frs (others (l.take l.length) f)) 0 12 (others (l.take l.length) f).length]) (Hc := []) (by show [AV.rs (subs _ (frs p)) 0 12 p.length, AV.rs (subs _ (frs (others (l.take l.length) f))) 0 12 (others (l.take l.length) f).length] = _; simp only [subs_frs]) rfl (same_spec p (others (l.take l.length) f) (by omega)) ?_
                            rintro r H ⟨rfl, rfl⟩
                            rw [decide_eq_true (show p = (others (l.take l.length) f) from by rw [List.take_length]; exact hpo)]
                            refine ⟨.inr ⟨rfl, rfl⟩, [.c f.cells, .c (frs l), .c [.sl (some (3, 0)) 12 p.length c2, .i .i64 16], .c (frs p ++ Y2), .c (frs (others (l.take l.length) f)), .c (frs p)], rfl, ?_⟩
                            conv => whnf
                            refine ACall.frameH [] [] rfl (args' := []) (Hc := []) rfl rfl awake9_spec ?_
                            rintro r H ⟨rfl, rfl⟩
                            refine ⟨.inl rfl, _, rfl, ?_⟩
                            conv => whnf
                            exact GhR.sel [] rfl (GhR.of ⟨rfl, rfl⟩)
                  · have hzX : ∀ φ, subs φ (frs (putL l f) ++ X) = frs (putL l f) ++ X := (Pl.frs _).app hp2
                    refine ⟨.inl rfl, [.c f.cells, .c [.sl (some (2, 0)) 12 (dropL l f).length c1, .i .i64 16], .c (frs (dropL l f) ++ Y1), .c (frs l), .c [.sl (some (10, 0)) 12 (putL l f).length e, .i .i64 16], .dead, .dead, .dead, .c (frs (dropL l f)), .c (frs (dropL l f)), .c (frs (putL l f) ++ X)], by show [_, _, _, _, _, _, _, _, _, _, Blk.c (subs _ _)] = _; simp only [hzX]; rfl, ?_⟩
                    conv => whnf
                    refine ALoop.ind (ip := false) tok (fun m r H => ∃ (i : Nat) (p : List Fr) (c : Nat) (Y : List AV), i ≤ l.count f + 1 ∧ m = l.count f + 1 - i ∧ p.count f = l.count f + 1 - i ∧ others p f = others l f ∧ p.length < 1000000 ∧ p.length ≤ c ∧ Pl Y ∧ Y.length = (c - p.length) * 12 ∧ H = [.c f.cells, .c (frs l), .c [.sl (some (3, 0)) 12 p.length c, .i .i64 16], .c (frs p ++ Y)] ∧
                      r = [(16, .i .i64 i), (12, .p (some (2, 0))), (9, .i .i64 (l.count f : Nat)), (8, .sl (some (1, 0)) 12 l.length d), (3, .p (some (0, 0))), (4, .b false)]) (l.count f + 1) ?_ ?_
                    · refine Gh.regs [16, 12, 9, 8, 3, 4] (Gh.sel [0, 3, 4, 10] rfl (Gh.of ⟨0, putL l f, _, _, by omega, by omega, by rw [count_put]; rfl, others_put _ _, by rw [putL_length]; omega, hp1, hp2, hp3, by show [_, Blk.c (subs _ _), _, Blk.c (subs _ _)] = _; simp only [subs_frs, subs_app, hp2 _]; rfl, ?_⟩))
                      refine keep_eq (show keepR _ _ = [_, _, _, _, _, _] from rfl) ?_
                      simp only [subG, sub, List.take_length]
                      rfl
                    · rintro m r H ⟨i, p, c, Y, hi, rfl, hcp, hop, hpl, hc, hY, hYl, rfl, rfl⟩
                      have hz : ∀ φ, subs φ (frs p ++ Y) = frs p ++ Y := (Pl.frs _).app hY
                      by_cases h3 : (i : Int) ≤ (l.count f : Nat)
                      · conv => whnf
                        refine acond_t (decide_eq_true h3) ?_
                        conv => whnf
                        have hmem : f ∈ p := List.count_pos_iff.1 (by omega)
                        refine ACall.frameH [2, 3] [] rfl (args' := [.p (some (0, 0)), f.av]) (Hc := [.c [.sl (some (1, 0)) 12 p.length c, .i .i64 16], .c (frs p ++ Y)]) rfl (by show [_, Blk.c (subs _ _)] = _; simp only [hz]; rfl) (qdrop_ok p f (dropL p f) 16 c Y hc hY hYl hmem rfl hpl) ?_
                        clear hz
                        rintro r H ⟨rfl, c2, Y2, k1, k2, k3, rfl⟩
                        have hz : ∀ φ, subs φ (frs (dropL p f) ++ Y2) = frs (dropL p f) ++ Y2 := (Pl.frs _).app k2
                        refine ⟨.inl rfl, [.c f.cells, .c (frs l), .c [.sl (some (3, 0)) 12 (dropL p f).length c2, .i .i64 16], .c (frs (dropL p f) ++ Y2)], by show [_, _, _, Blk.c (subs _ _)] = _; simp only [hz]; rfl, ?_⟩
                        conv => whnf
                        have hdl : (dropL p f).length ≤ p.length := by rw [drop_erase]; exact List.length_erase_le
                        refine Gh.regs [16, 12, 9, 8, 3, 4] (Gh.of ⟨l.count f + 1 - (i + 1), by omega, i + 1, dropL p f, c2, Y2, by omega, rfl, by rw [count_drop]; omega, by rw [others_drop]; exact hop, by omega, k1, k2, k3, rfl, ?_⟩)
                        rw [w64 (by omega) (by omega)]; rfl
                      · have hi3 : i = l.count f + 1 := by omega
                        subst hi3
                        have hc0 : p.count f = 0 := by omega
                        have hpo : p = others l f := by rw [← hop]; exact (others_none hc0).symm
                        have hnm : ¬ f ∈ p := fun h => by have := List.count_pos_iff.2 h; omega
                        conv => whnf
                        refine acond_f (decide_eq_false h3) ?_
                        conv => whnf
                        refine ALoop.ind (ip := false) tok (fun m r H => ∃ (k g : Nat), k ≤ l.length ∧ m = l.length - k ∧ (others (l.take k) f).length ≤ g ∧ H = [.c f.cells, .c (frs l), .c [.sl (some (3, 0)) 12 p.length c, .i .i64 16], .c (frs p ++ Y), .c (frs (others (l.take k) f))] ∧
                          r = [(18, .i .i64 k), (17, .sl (some (4, 0)) 12 (others (l.take k) f).length g), (12, .p (some (2, 0))), (8, .sl (some (1, 0)) 12 l.length d), (3, .p (some (0, 0))), (4, .b false)]) l.length ?_ ?_
                        · exact Gh.regs [18, 17, 12, 8, 3, 4] (Gh.of ⟨0, 0, by omega, by omega, Nat.le_refl _, rfl, rfl⟩)
                        · rintro m r H ⟨k, g, hk, rfl, hg, rfl, rfl⟩
                          have hlk : (others (l.take k) f).length ≤ k := Nat.le_trans (List.length_filter_le _ _) (by rw [List.length_take]; omega)
                          have hfo := frs_length (others (l.take k) f)
                          by_cases h4 : (k : Int) < l.length
                          · have hkl : k < l.length := by omega
                            have hst : others (l.take (k + 1)) f = others (l.take k) f ++ (if l[k] = f then [] else [l[k]]) := by
                              rw [List.take_add_one, List.getElem?_eq_getElem hkl, others_app]
                              congr 1
                              show others [l[k]] f = _
                              unfold others
                              by_cases e : l[k] = f
                              · simp [e]
                              · simp [e]
                            conv => whnf
                            refine acond_t (decide_eq_true h4) ?_
                            conv => whnf
                            refine ADraw.of tok mixed false [0, 1, 2, 3, 4, 5] [] (by kernel_rfl) (fun _ _ _ _ h => h) ?_
                            conv => whnf
                            refine ⟨⟨by omega, h4⟩, ?_⟩
                            conv => whnf
                            refine aget_fr (k := k) (by omega) hkl ?_
                            conv => whnf
                            refine ⟨flatFrame, ?_⟩
                            conv => whnf
                            by_cases e : l[k] = f
                            · rw [if_pos e, List.append_nil] at hst
                              refine acond_f (by rw [fr_eq, decide_eq_true e]; rfl) ?_
                              conv => whnf
                              refine Gh.regs [18, 17, 12, 8, 3, 4] (Gh.of ⟨l.length - (k + 1), by omega, k + 1, g, by omega, rfl, by rw [hst]; exact hg, by rw [hst], ?_⟩)
                              rw [hst, w64 (by omega) (by omega)]; rfl
                            · rw [if_neg e] at hst
                              refine acond_t (by rw [fr_eq, decide_eq_false e]; rfl) ?_
                              conv => whnf
                              refine ⟨⟨by omega, h4⟩, ?_⟩
                              conv => whnf
                              refine aget_fr (k := k) (by omega) hkl ?_
                              conv => whnf
                              refine ⟨by dsimp only; omega, ?_⟩
                              conv => whnf
                              refine ⟨by show 12 ≤ (12 : Nat); omega, ?_⟩
                              conv => whnf
                              refine ⟨rfl, by (try dsimp only); omega, by omega, fun g2 hg2 => ?_⟩
                              conv => whnf
                              refine Gh.regs [18, 17, 12, 8, 3, 4] (Gh.sel [0, 1, 2, 3, 6] rfl (Gh.of ⟨l.length - (k + 1), by omega, k + 1, g2, by omega, rfl, by rw [hst, List.length_append]; exact hg2, ?_, ?_⟩))
                              · rw [hst]
                                have hAq : List.take ((others (l.take k) f).length * 12) (List.drop 0 (frs (others (l.take k) f))) ++ (l[k]).cells = frs (others (l.take k) f ++ [l[k]]) := by
                                  rw [List.drop_zero, List.take_of_length_le (by omega), ← frs_one, ← frs_append]
                                show [_, Blk.c (subs _ (frs _)), _, Blk.c (subs _ _), Blk.c (subs _ (List.take ((others (l.take k) f).length * 12) (List.drop 0 (frs (others (l.take k) f))) ++ (l[k]).cells))] = _
                                rw [hAq]
                                simp only [subs_frs, hz]
                                rfl
                              · rw [hst]
                                refine keep_eq (show keepR _ _ = [_, _, _, _, _, _] from rfl) ?_
                                simp only [subG, sub, List.length_append, List.length_singleton]
                                rw [w64 (by omega) (by omega)]; rfl
                          · have hkl : k = l.length := by omega
                            subst hkl
                            rw [List.take_length] at hlk hfo hg
                            conv => whnf
                            refine acond_f (decide_eq_false h4) ?_
                            conv => whnf
                            refine ACall.frameH [2, 3] [] rfl (args' := [.p (some (0, 0)), f.av]) (Hc := [.c [.sl (some (1, 0)) 12 p.length c, .i .i64 16], .c (frs p ++ Y)]) rfl (by show [_, Blk.c (subs _ _)] = _; simp only [hz]; rfl) (qdrop_spec p f 16 c Y hc hY hYl hpl) ?_
                            clear hz
                            rintro r H (⟨hmm, _⟩ | ⟨_, rfl, c2, Y2, k1, k2, k3, rfl⟩)
                            · exact absurd hmm hnm
                            have hz : ∀ φ, subs φ (frs p ++ Y2) = frs p ++ Y2 := (Pl.frs _).app k2
                            refine ⟨.inl rfl, [.c f.cells, .c (frs l), .c [.sl (some (3, 0)) 12 p.length c2, .i .i64 16], .c (frs p ++ Y2), .c (frs (others (l.take l.length) f))], by show [_, _, _, Blk.c (subs _ _), _] = _; simp only [hz]; rfl, ?_⟩
                            conv => whnf
                            refine ACall.frameH [2, 3] [] rfl (args' := [.p (some (0, 0))]) (Hc := [.c [.sl (some (1, 0)) 12 p.length c2, .i .i64 16], .c (frs p ++ Y2)]) rfl (by show [_, Blk.c (subs _ _)] = _; simp only [hz]; rfl) (qall_spec p 16 c2 Y2 k2 hpl) ?_
                            rintro r H ⟨g3, hg3, rfl, rfl⟩
                            refine ⟨.inl rfl, [.c f.cells, .c (frs l), .c [.sl (some (3, 0)) 12 p.length c2, .i .i64 16], .c (frs p ++ Y2), .c (frs (others (l.take l.length) f)), .c (frs p)], by show [_, _, _, Blk.c (subs _ _), _, Blk.c (subs _ _)] = _; simp only [hz, subs_frs]; rfl, ?_⟩
                            conv => whnf
                            refine ACall.frameH [] [5, 4] rfl (args' := [.rs (frs p) 0 12 p.length, .rs (frs (others (l.take l.length) f)) 0 12 (others (l.take l.length) f).length]) (Hc := []) (by show [AV.rs (subs _ (frs p)) 0 12 p.length, AV.rs (subs _ (frs (others (l.take l.length) f))) 0 12 (others (l.take l.length) f).length] = _; simp only [subs_frs]) rfl (same_spec p (others (l.take l.length) f) (by omega)) ?_
                            rintro r H ⟨rfl, rfl⟩
                            rw [decide_eq_true (show p = (others (l.take l.length) f) from by rw [List.take_length]; exact hpo)]
                            refine ⟨.inr ⟨rfl, rfl⟩, [.c f.cells, .c (frs l), .c [.sl (some (3, 0)) 12 p.length c2, .i .i64 16], .c (frs p ++ Y2), .c (frs (others (l.take l.length) f)), .c (frs p)], rfl, ?_⟩
                            conv => whnf
                            refine ACall.frameH [] [] rfl (args' := []) (Hc := []) rfl rfl awake9_spec ?_
                            rintro r H ⟨rfl, rfl⟩
                            refine ⟨.inl rfl, _, rfl, ?_⟩
                            conv => whnf
                            exact GhR.sel [] rfl (GhR.of ⟨rfl, rfl⟩)
                  · exact absurd rfl h0
                · refine ACall.frameH [4, 5] [] rfl (args' := [.p (some (0, 0)), f.av]) (Hc := [.c [.sl (some (1, 0)) 12 l.length d2, .i .i64 16], .c (frs l ++ Z)]) rfl (by show [_, Blk.c (subs _ _)] = _; simp only [hzZ]; rfl) hput ?_
                  rintro r H ⟨rfl, ⟨h0, _⟩ | ⟨_, e, X, hp1, hp2, hp3, rfl⟩⟩
                  · cases h0
                  have hzX : ∀ φ, subs φ (frs l ++ X) = frs l ++ X := (Pl.frs _).app hp2
                  refine ⟨.inl rfl, [.c f.cells, .c [.sl (some (2, 0)) 12 (dropL l f).length c1, .i .i64 16], .c (frs (dropL l f) ++ Y1), .c (frs l), .c [.sl (some (5, 0)) 12 l.length e, .i .i64 16], .c (frs l ++ X), .dead, .dead, .c (frs (dropL l f)), .c (frs (dropL l f))], by show [_, _, _, _, _, Blk.c (subs _ _), _, _, _, _] = _; simp only [hzX]; rfl, ?_⟩
                  conv => whnf
                  refine ACall.frameH [4, 5] [] rfl (args' := [.p (some (0, 0))]) (Hc := [.c [.sl (some (1, 0)) 12 l.length e, .i .i64 16], .c (frs l ++ X)]) rfl (by show [_, Blk.c (subs _ _)] = _; simp only [hzX]; rfl) (qall_spec l 16 e X hp2 (by omega)) ?_
                  rintro r H ⟨g3, hg3, rfl, rfl⟩
                  refine ⟨.inl rfl, [.c f.cells, .c [.sl (some (2, 0)) 12 (dropL l f).length c1, .i .i64 16], .c (frs (dropL l f) ++ Y1), .c (frs l), .c [.sl (some (5, 0)) 12 l.length e, .i .i64 16], .c (frs l ++ X), .dead, .dead, .c (frs (dropL l f)), .c (frs (dropL l f)), .c (frs l)], by show [_, _, _, _, _, Blk.c (subs _ _), _, _, _, _, Blk.c (subs _ _)] = _; simp only [hzX, subs_frs]; rfl, ?_⟩
                  conv => whnf
                  refine ACall.frameH [] [10, 3] rfl (args' := [.rs (frs l) 0 12 l.length, .rs (frs l) 0 12 l.length]) (Hc := []) (by show [AV.rs (subs _ (frs l)) 0 12 l.length, AV.rs (subs _ (frs l)) 0 12 l.length] = _; simp only [subs_frs]) rfl (same_spec l l (by omega)) ?_
                  rintro r H ⟨rfl, rfl⟩
                  rw [decide_eq_true rfl]
                  refine ⟨.inr ⟨rfl, rfl⟩, [.c f.cells, .c [.sl (some (2, 0)) 12 (dropL l f).length c1, .i .i64 16], .c (frs (dropL l f) ++ Y1), .c (frs l), .c [.sl (some (5, 0)) 12 l.length e, .i .i64 16], .c (frs l ++ X), .dead, .dead, .c (frs (dropL l f)), .c (frs (dropL l f)), .c (frs l)], rfl, ?_⟩
                  conv => whnf
                  refine ACall.frameH [] [] rfl (args' := []) (Hc := []) rfl rfl awake9_spec ?_
                  rintro r H ⟨rfl, rfl⟩
                  refine ⟨.inl rfl, _, rfl, ?_⟩
                  conv => whnf
                  exact GhR.sel [] rfl (GhR.of ⟨rfl, rfl⟩)
                · refine ACall.frameH [4, 5] [] rfl (args' := [.p (some (0, 0)), f.av]) (Hc := [.c [.sl (some (1, 0)) 12 l.length d2, .i .i64 16], .c (frs l ++ Z)]) rfl (by show [_, Blk.c (subs _ _)] = _; simp only [hzZ]; rfl) hput ?_
                  rintro r H ⟨rfl, ⟨h0, _⟩ | ⟨_, e, X, hp1, hp2, hp3, rfl⟩⟩
                  · cases h0
                  have hzX : ∀ φ, subs φ (frs l ++ X) = frs l ++ X := (Pl.frs _).app hp2
                  refine ⟨.inl rfl, [.c f.cells, .c [.sl (some (2, 0)) 12 (dropL l f).length c1, .i .i64 16], .c (frs (dropL l f) ++ Y1), .c (frs l), .c [.sl (some (5, 0)) 12 l.length e, .i .i64 16], .c (frs l ++ X), .dead, .dead, .c (frs (dropL l f)), .c (frs (dropL l f))], by show [_, _, _, _, _, Blk.c (subs _ _), _, _, _, _] = _; simp only [hzX]; rfl, ?_⟩
                  conv => whnf
                  repeat (refine acond_t (t := ((l.length : Int) == 16)) (beq_iff_eq.2 (by omega)) ?_; conv => whnf)
                  refine ACall.frameH [4, 5] [] rfl (args' := [.p (some (0, 0))]) (Hc := [.c [.sl (some (1, 0)) 12 l.length e, .i .i64 16], .c (frs l ++ X)]) rfl (by show [_, Blk.c (subs _ _)] = _; simp only [hzX]; rfl) (qall_spec l 16 e X hp2 (by omega)) ?_
                  rintro r H ⟨g3, hg3, rfl, rfl⟩
                  refine ⟨.inl rfl, [.c f.cells, .c [.sl (some (2, 0)) 12 (dropL l f).length c1, .i .i64 16], .c (frs (dropL l f) ++ Y1), .c (frs l), .c [.sl (some (5, 0)) 12 l.length e, .i .i64 16], .c (frs l ++ X), .dead, .dead, .c (frs (dropL l f)), .c (frs (dropL l f)), .c (frs l)], by show [_, _, _, _, _, Blk.c (subs _ _), _, _, _, _, Blk.c (subs _ _)] = _; simp only [hzX, subs_frs]; rfl, ?_⟩
                  conv => whnf
                  repeat (refine acond_t (t := ((l.length : Int) == 16)) (beq_iff_eq.2 (by omega)) ?_; conv => whnf)
                  refine ACall.frameH [] [10, 3] rfl (args' := [.rs (frs l) 0 12 l.length, .rs (frs l) 0 12 l.length]) (Hc := []) (by show [AV.rs (subs _ (frs l)) 0 12 l.length, AV.rs (subs _ (frs l)) 0 12 l.length] = _; simp only [subs_frs]) rfl (same_spec l l (by omega)) ?_
                  rintro r H ⟨rfl, rfl⟩
                  rw [decide_eq_true rfl]
                  refine ⟨.inr ⟨rfl, rfl⟩, [.c f.cells, .c [.sl (some (2, 0)) 12 (dropL l f).length c1, .i .i64 16], .c (frs (dropL l f) ++ Y1), .c (frs l), .c [.sl (some (5, 0)) 12 l.length e, .i .i64 16], .c (frs l ++ X), .dead, .dead, .c (frs (dropL l f)), .c (frs (dropL l f)), .c (frs l)], rfl, ?_⟩
                  conv => whnf
                  repeat (refine acond_t (t := ((l.length : Int) == 16)) (beq_iff_eq.2 (by omega)) ?_; conv => whnf)
                  refine ACall.frameH [] [] rfl (args' := []) (Hc := []) rfl rfl awake9_spec ?_
                  rintro r H ⟨rfl, rfl⟩
                  refine ⟨.inl rfl, _, rfl, ?_⟩
                  conv => whnf
                  repeat (refine acond_t (t := ((l.length : Int) == 16)) (beq_iff_eq.2 (by omega)) ?_; conv => whnf)
                  exact GhR.sel [] rfl (GhR.of ⟨rfl, rfl⟩)
              · have hz1 : ∀ φ, subs φ (frs l ++ Y1) = frs l ++ Y1 := (Pl.frs _).app k2
                refine ⟨.inl rfl, [.c f.cells, .c [.sl (some (2, 0)) 12 l.length c1, .i .i64 16], .c (frs l ++ Y1), .c (frs l), .c [.sl (some (5, 0)) 12 l.length d2, .i .i64 16], .c (frs l ++ Z)], by show [_, _, Blk.c (subs _ _), _, _, _] = _; simp only [hz1]; rfl, ?_⟩
                conv => whnf
                have hc0 : l.count f = 0 := List.count_eq_zero.2 hm
                refine acond_t (beq_iff_eq.2 (by rw [hcnt, hc0]; rfl)) ?_
                conv => whnf
                refine ACall.frameH [1, 2] [] rfl (args' := [.p (some (0, 0))]) (Hc := [.c [.sl (some (1, 0)) 12 l.length c1, .i .i64 16], .c (frs l ++ Y1)]) rfl (by show [_, Blk.c (subs _ _)] = _; simp only [hz1]; rfl) (qall_spec l 16 c1 Y1 k2 (by omega)) ?_
                rintro r H ⟨g3, hg3, rfl, rfl⟩
                refine ⟨.inl rfl, [.c f.cells, .c [.sl (some (2, 0)) 12 l.length c1, .i .i64 16], .c (frs l ++ Y1), .c (frs l), .c [.sl (some (5, 0)) 12 l.length d2, .i .i64 16], .c (frs l ++ Z), .c (frs l)], by show [_, _, Blk.c (subs _ _), _, _, _, Blk.c (subs _ _)] = _; simp only [hz1, subs_frs]; rfl, ?_⟩
                conv => whnf
                refine ACall.frameH [] [6, 3] rfl (args' := [.rs (frs l) 0 12 l.length, .rs (frs l) 0 12 l.length]) (Hc := []) (by show [AV.rs (subs _ (frs l)) 0 12 l.length, AV.rs (subs _ (frs l)) 0 12 l.length] = _; simp only [subs_frs]) rfl (same_spec l l (by omega)) ?_
                rintro r H ⟨rfl, rfl⟩
                rw [decide_eq_true rfl]
                refine ⟨.inr ⟨rfl, rfl⟩, [.c f.cells, .c [.sl (some (2, 0)) 12 l.length c1, .i .i64 16], .c (frs l ++ Y1), .c (frs l), .c [.sl (some (5, 0)) 12 l.length d2, .i .i64 16], .c (frs l ++ Z), .c (frs l)], rfl, ?_⟩
                conv => whnf
                have hE : putE l f 16 = 0 ∨ putE l f 16 = 14 ∨ (putE l f 16 = 15 ∧ l.length = 16) := by
                  unfold putE
                  split
                  · split
                    · right; right; exact ⟨rfl, by omega⟩
                    · left; rfl
                  · right; left; rfl
                have hput := qput_spec l hok f hf 16 d2 Z hd2 hZ hZl (by omega)
                rcases hE with hE | hE | ⟨hE, h16⟩ <;> rw [hE] at hput
                · refine ACall.frameH [4, 5] [] rfl (args' := [.p (some (0, 0)), f.av]) (Hc := [.c [.sl (some (1, 0)) 12 l.length d2, .i .i64 16], .c (frs l ++ Z)]) rfl (by show [_, Blk.c (subs _ _)] = _; simp only [hzZ]; rfl) hput ?_
                  rintro r H ⟨rfl, ⟨_, ⟨e, X, hp1, hp2, hp3, rfl⟩ | ⟨e, X, hp1, hp2, hp3, rfl⟩⟩ | ⟨h0, _⟩⟩
                  · have hzX : ∀ φ, subs φ (frs (putL l f) ++ X) = frs (putL l f) ++ X := (Pl.frs _).app hp2
                    refine ⟨.inl rfl, [.c f.cells, .c [.sl (some (2, 0)) 12 l.length c1, .i .i64 16], .c (frs l ++ Y1), .c (frs l), .c [.sl (some (5, 0)) 12 (putL l f).length e, .i .i64 16], .c (frs (putL l f) ++ X), .c (frs l)], by show [_, _, _, _, _, Blk.c (subs _ _), _] = _; simp only [hzX]; rfl, ?_⟩
                    conv => whnf
                    refine ALoop.ind (ip := false) tok (fun m r H => ∃ (i : Nat) (p : List Fr) (c : Nat) (Y : List AV), i ≤ l.count f + 1 ∧ m = l.count f + 1 - i ∧ p.count f = l.count f + 1 - i ∧ others p f = others l f ∧ p.length < 1000000 ∧ p.length ≤ c ∧ Pl Y ∧ Y.length = (c - p.length) * 12 ∧ H = [.c f.cells, .c (frs l), .c [.sl (some (3, 0)) 12 p.length c, .i .i64 16], .c (frs p ++ Y)] ∧
                      r = [(16, .i .i64 i), (12, .p (some (2, 0))), (9, .i .i64 (l.count f : Nat)), (8, .sl (some (1, 0)) 12 l.length d), (3, .p (some (0, 0))), (4, .b false)]) (l.count f + 1) ?_ ?_
                    · refine Gh.regs [16, 12, 9, 8, 3, 4] (Gh.sel [0, 3, 4, 5] rfl (Gh.of ⟨0, putL l f, _, _, by omega, by omega, by rw [count_put]; rfl, others_put _ _, by rw [putL_length]; omega, hp1, hp2, hp3, by show [_, Blk.c (subs _ _), _, Blk.c (subs _ _)] = _; simp only [subs_frs, subs_app, hp2 _]; rfl, ?_⟩))
                      refine keep_eq (show keepR _ _ = [_, _, _, _, _, _] from rfl) ?_
                      simp only [subG, sub, List.take_length]
                      rfl
                    · rintro m r H ⟨i, p, c, Y, hi, rfl, hcp, hop, hpl, hc, hY, hYl, rfl, rfl⟩
                      have hz : ∀ φ, subs φ (frs p ++ Y) = frs p ++ Y := (Pl.frs _).app hY
                      by_cases h3 : (i : Int) ≤ (l.count f : Nat)
                      · conv => whnf
                        refine acond_t (decide_eq_true h3) ?_
                        conv => whnf
                        have hmem : f ∈ p := List.count_pos_iff.1 (by omega)
                        refine ACall.frameH [2, 3] [] rfl (args' := [.p (some (0, 0)), f.av]) (Hc := [.c [.sl (some (1, 0)) 12 p.length c, .i .i64 16], .c (frs p ++ Y)]) rfl (by show [_, Blk.c (subs _ _)] = _; simp only [hz]; rfl) (qdrop_ok p f (dropL p f) 16 c Y hc hY hYl hmem rfl hpl) ?_
                        clear hz
                        rintro r H ⟨rfl, c2, Y2, k1, k2, k3, rfl⟩
                        have hz : ∀ φ, subs φ (frs (dropL p f) ++ Y2) = frs (dropL p f) ++ Y2 := (Pl.frs _).app k2
                        refine ⟨.inl rfl, [.c f.cells, .c (frs l), .c [.sl (some (3, 0)) 12 (dropL p f).length c2, .i .i64 16], .c (frs (dropL p f) ++ Y2)], by show [_, _, _, Blk.c (subs _ _)] = _; simp only [hz]; rfl, ?_⟩
                        conv => whnf
                        have hdl : (dropL p f).length ≤ p.length := by rw [drop_erase]; exact List.length_erase_le
                        refine Gh.regs [16, 12, 9, 8, 3, 4] (Gh.of ⟨l.count f + 1 - (i + 1), by omega, i + 1, dropL p f, c2, Y2, by omega, rfl, by rw [count_drop]; omega, by rw [others_drop]; exact hop, by omega, k1, k2, k3, rfl, ?_⟩)
                        rw [w64 (by omega) (by omega)]; rfl
                      · have hi3 : i = l.count f + 1 := by omega
                        subst hi3
                        have hc0 : p.count f = 0 := by omega
                        have hpo : p = others l f := by rw [← hop]; exact (others_none hc0).symm
                        have hnm : ¬ f ∈ p := fun h => by have := List.count_pos_iff.2 h; omega
                        conv => whnf
                        refine acond_f (decide_eq_false h3) ?_
                        conv => whnf
                        refine ALoop.ind (ip := false) tok (fun m r H => ∃ (k g : Nat), k ≤ l.length ∧ m = l.length - k ∧ (others (l.take k) f).length ≤ g ∧ H = [.c f.cells, .c (frs l), .c [.sl (some (3, 0)) 12 p.length c, .i .i64 16], .c (frs p ++ Y), .c (frs (others (l.take k) f))] ∧
                          r = [(18, .i .i64 k), (17, .sl (some (4, 0)) 12 (others (l.take k) f).length g), (12, .p (some (2, 0))), (8, .sl (some (1, 0)) 12 l.length d), (3, .p (some (0, 0))), (4, .b false)]) l.length ?_ ?_
                        · exact Gh.regs [18, 17, 12, 8, 3, 4] (Gh.of ⟨0, 0, by omega, by omega, Nat.le_refl _, rfl, rfl⟩)
                        · rintro m r H ⟨k, g, hk, rfl, hg, rfl, rfl⟩
                          have hlk : (others (l.take k) f).length ≤ k := Nat.le_trans (List.length_filter_le _ _) (by rw [List.length_take]; omega)
                          have hfo := frs_length (others (l.take k) f)
                          by_cases h4 : (k : Int) < l.length
                          · have hkl : k < l.length := by omega
                            have hst : others (l.take (k + 1)) f = others (l.take k) f ++ (if l[k] = f then [] else [l[k]]) := by
                              rw [List.take_add_one, List.getElem?_eq_getElem hkl, others_app]
                              congr 1
                              show others [l[k]] f = _
                              unfold others
                              by_cases e : l[k] = f
                              · simp [e]
                              · simp [e]
                            conv => whnf
                            refine acond_t (decide_eq_true h4) ?_
                            conv => whnf
                            refine ADraw.of tok mixed false [0, 1, 2, 3, 4, 5] [] (by kernel_rfl) (fun _ _ _ _ h => h) ?_
                            conv => whnf
                            refine ⟨⟨by omega, h4⟩, ?_⟩
                            conv => whnf
                            refine aget_fr (k := k) (by omega) hkl ?_
                            conv => whnf
                            refine ⟨flatFrame, ?_⟩
                            conv => whnf
                            by_cases e : l[k] = f
                            · rw [if_pos e, List.append_nil] at hst
                              refine acond_f (by rw [fr_eq, decide_eq_true e]; rfl) ?_
                              conv => whnf
                              refine Gh.regs [18, 17, 12, 8, 3, 4] (Gh.of ⟨l.length - (k + 1), by omega, k + 1, g, by omega, rfl, by rw [hst]; exact hg, by rw [hst], ?_⟩)
                              rw [hst, w64 (by omega) (by omega)]; rfl
                            · rw [if_neg e] at hst
                              refine acond_t (by rw [fr_eq, decide_eq_false e]; rfl) ?_
                              conv => whnf
                              refine ⟨⟨by omega, h4⟩, ?_⟩
                              conv => whnf
                              refine aget_fr (k := k) (by omega) hkl ?_
                              conv => whnf
                              refine ⟨by dsimp only; omega, ?_⟩
                              conv => whnf
                              refine ⟨by show 12 ≤ (12 : Nat); omega, ?_⟩
                              conv => whnf
                              refine ⟨rfl, by (try dsimp only); omega, by omega, fun g2 hg2 => ?_⟩
                              conv => whnf
                              refine Gh.regs [18, 17, 12, 8, 3, 4] (Gh.sel [0, 1, 2, 3, 6] rfl (Gh.of ⟨l.length - (k + 1), by omega, k + 1, g2, by omega, rfl, by rw [hst, List.length_append]; exact hg2, ?_, ?_⟩))
                              · rw [hst]
                                have hAq : List.take ((others (l.take k) f).length * 12) (List.drop 0 (frs (others (l.take k) f))) ++ (l[k]).cells = frs (others (l.take k) f ++ [l[k]]) := by
                                  rw [List.drop_zero, List.take_of_length_le (by omega), ← frs_one, ← frs_append]
                                show [_, Blk.c (subs _ (frs _)), _, Blk.c (subs _ _), Blk.c (subs _ (List.take ((others (l.take k) f).length * 12) (List.drop 0 (frs (others (l.take k) f))) ++ (l[k]).cells))] = _
                                rw [hAq]
                                simp only [subs_frs, hz]
                                rfl
                              · rw [hst]
                                refine keep_eq (show keepR _ _ = [_, _, _, _, _, _] from rfl) ?_
                                simp only [subG, sub, List.length_append, List.length_singleton]
                                rw [w64 (by omega) (by omega)]; rfl
                          · have hkl : k = l.length := by omega
                            subst hkl
                            rw [List.take_length] at hlk hfo hg
                            conv => whnf
                            refine acond_f (decide_eq_false h4) ?_
                            conv => whnf
                            refine ACall.frameH [2, 3] [] rfl (args' := [.p (some (0, 0)), f.av]) (Hc := [.c [.sl (some (1, 0)) 12 p.length c, .i .i64 16], .c (frs p ++ Y)]) rfl (by show [_, Blk.c (subs _ _)] = _; simp only [hz]; rfl) (qdrop_spec p f 16 c Y hc hY hYl hpl) ?_
                            clear hz
                            rintro r H (⟨hmm, _⟩ | ⟨_, rfl, c2, Y2, k1, k2, k3, rfl⟩)
                            · exact absurd hmm hnm
                            have hz : ∀ φ, subs φ (frs p ++ Y2) = frs p ++ Y2 := (Pl.frs _).app k2
                            refine ⟨.inl rfl, [.c f.cells, .c (frs l), .c [.sl (some (3, 0)) 12 p.length c2, .i .i64 16], .c (frs p ++ Y2), .c (frs (others (l.take l.length) f))], by show [_, _, _, Blk.c (subs _ _), _] = _; simp only [hz]; rfl, ?_⟩
                            conv => whnf
                            refine ACall.frameH [2, 3] [] rfl (args' := [.p (some (0, 0))]) (Hc := [.c [.sl (some (1, 0)) 12 p.length c2, .i .i64 16], .c (frs p ++ Y2)]) rfl (by show [_, Blk.c (subs _ _)] = _; simp only [hz]; rfl) (qall_spec p 16 c2 Y2 k2 hpl) ?_
                            rintro r H ⟨g3, hg3, rfl, rfl⟩
                            refine ⟨.inl rfl, [.c f.cells, .c (frs l), .c [.sl (some (3, 0)) 12 p.length c2, .i .i64 16], .c (frs p ++ Y2), .c (frs (others (l.take l.length) f)), .c (frs p)], by show [_, _, _, Blk.c (subs _ _), _, Blk.c (subs _ _)] = _; simp only [hz, subs_frs]; rfl, ?_⟩
                            conv => whnf
                            refine ACall.frameH [] [5, 4] rfl (args' := [.rs (frs p) 0 12 p.length, .rs (frs (others (l.take l.length) f)) 0 12 (others (l.take l.length) f).length]) (Hc := []) (by show [AV.rs (subs _ (frs p)) 0 12 p.length, AV.rs (subs _ (frs (others (l.take l.length) f))) 0 12 (others (l.take l.length) f).length] = _; simp only [subs_frs]) rfl (same_spec p (others (l.take l.length) f) (by omega)) ?_
                            rintro r H ⟨rfl, rfl⟩
                            rw [decide_eq_true (show p = (others (l.take l.length) f) from by rw [List.take_length]; exact hpo)]
                            refine ⟨.inr ⟨rfl, rfl⟩, [.c f.cells, .c (frs l), .c [.sl (some (3, 0)) 12 p.length c2, .i .i64 16], .c (frs p ++ Y2), .c (frs (others (l.take l.length) f)), .c (frs p)], rfl, ?_⟩
                            conv => whnf
                            refine ACall.frameH [] [] rfl (args' := []) (Hc := []) rfl rfl awake9_spec ?_
                            rintro r H ⟨rfl, rfl⟩
                            refine ⟨.inl rfl, _, rfl, ?_⟩
                            conv => whnf
                            exact GhR.sel [] rfl (GhR.of ⟨rfl, rfl⟩)
                  · have hzX : ∀ φ, subs φ (frs (putL l f) ++ X) = frs (putL l f) ++ X := (Pl.frs _).app hp2
                    refine ⟨.inl rfl, [.c f.cells, .c [.sl (some (2, 0)) 12 l.length c1, .i .i64 16], .c (frs l ++ Y1), .c (frs l), .c [.sl (some (7, 0)) 12 (putL l f).length e, .i .i64 16], .dead, .c (frs l), .c (frs (putL l f) ++ X)], by show [_, _, _, _, _, _, _, Blk.c (subs _ _)] = _; simp only [hzX]; rfl, ?_⟩
                    conv => whnf
                    refine ALoop.ind (ip := false) tok (fun m r H => ∃ (i : Nat) (p : List Fr) (c : Nat) (Y : List AV), i ≤ l.count f + 1 ∧ m = l.count f + 1 - i ∧ p.count f = l.count f + 1 - i ∧ others p f = others l f ∧ p.length < 1000000 ∧ p.length ≤ c ∧ Pl Y ∧ Y.length = (c - p.length) * 12 ∧ H = [.c f.cells, .c (frs l), .c [.sl (some (3, 0)) 12 p.length c, .i .i64 16], .c (frs p ++ Y)] ∧
                      r = [(16, .i .i64 i), (12, .p (some (2, 0))), (9, .i .i64 (l.count f : Nat)), (8, .sl (some (1, 0)) 12 l.length d), (3, .p (some (0, 0))), (4, .b false)]) (l.count f + 1) ?_ ?_
                    · refine Gh.regs [16, 12, 9, 8, 3, 4] (Gh.sel [0, 3, 4, 7] rfl (Gh.of ⟨0, putL l f, _, _, by omega, by omega, by rw [count_put]; rfl, others_put _ _, by rw [putL_length]; omega, hp1, hp2, hp3, by show [_, Blk.c (subs _ _), _, Blk.c (subs _ _)] = _; simp only [subs_frs, subs_app, hp2 _]; rfl, ?_⟩))
                      refine keep_eq (show keepR _ _ = [_, _, _, _, _, _] from rfl) ?_
                      simp only [subG, sub, List.take_length]
                      rfl
                    · rintro m r H ⟨i, p, c, Y, hi, rfl, hcp, hop, hpl, hc, hY, hYl, rfl, rfl⟩
                      have hz : ∀ φ, subs φ (frs p ++ Y) = frs p ++ Y := (Pl.frs _).app hY
                      by_cases h3 : (i : Int) ≤ (l.count f : Nat)
                      · conv => whnf
                        refine acond_t (decide_eq_true h3) ?_
                        conv => whnf
                        have hmem : f ∈ p := List.count_pos_iff.1 (by omega)
                        refine ACall.frameH [2, 3] [] rfl (args' := [.p (some (0, 0)), f.av]) (Hc := [.c [.sl (some (1, 0)) 12 p.length c, .i .i64 16], .c (frs p ++ Y)]) rfl (by show [_, Blk.c (subs _ _)] = _; simp only [hz]; rfl) (qdrop_ok p f (dropL p f) 16 c Y hc hY hYl hmem rfl hpl) ?_
                        clear hz
                        rintro r H ⟨rfl, c2, Y2, k1, k2, k3, rfl⟩
                        have hz : ∀ φ, subs φ (frs (dropL p f) ++ Y2) = frs (dropL p f) ++ Y2 := (Pl.frs _).app k2
                        refine ⟨.inl rfl, [.c f.cells, .c (frs l), .c [.sl (some (3, 0)) 12 (dropL p f).length c2, .i .i64 16], .c (frs (dropL p f) ++ Y2)], by show [_, _, _, Blk.c (subs _ _)] = _; simp only [hz]; rfl, ?_⟩
                        conv => whnf
                        have hdl : (dropL p f).length ≤ p.length := by rw [drop_erase]; exact List.length_erase_le
                        refine Gh.regs [16, 12, 9, 8, 3, 4] (Gh.of ⟨l.count f + 1 - (i + 1), by omega, i + 1, dropL p f, c2, Y2, by omega, rfl, by rw [count_drop]; omega, by rw [others_drop]; exact hop, by omega, k1, k2, k3, rfl, ?_⟩)
                        rw [w64 (by omega) (by omega)]; rfl
                      · have hi3 : i = l.count f + 1 := by omega
                        subst hi3
                        have hc0 : p.count f = 0 := by omega
                        have hpo : p = others l f := by rw [← hop]; exact (others_none hc0).symm
                        have hnm : ¬ f ∈ p := fun h => by have := List.count_pos_iff.2 h; omega
                        conv => whnf
                        refine acond_f (decide_eq_false h3) ?_
                        conv => whnf
                        refine ALoop.ind (ip := false) tok (fun m r H => ∃ (k g : Nat), k ≤ l.length ∧ m = l.length - k ∧ (others (l.take k) f).length ≤ g ∧ H = [.c f.cells, .c (frs l), .c [.sl (some (3, 0)) 12 p.length c, .i .i64 16], .c (frs p ++ Y), .c (frs (others (l.take k) f))] ∧
                          r = [(18, .i .i64 k), (17, .sl (some (4, 0)) 12 (others (l.take k) f).length g), (12, .p (some (2, 0))), (8, .sl (some (1, 0)) 12 l.length d), (3, .p (some (0, 0))), (4, .b false)]) l.length ?_ ?_
                        · exact Gh.regs [18, 17, 12, 8, 3, 4] (Gh.of ⟨0, 0, by omega, by omega, Nat.le_refl _, rfl, rfl⟩)
                        · rintro m r H ⟨k, g, hk, rfl, hg, rfl, rfl⟩
                          have hlk : (others (l.take k) f).length ≤ k := Nat.le_trans (List.length_filter_le _ _) (by rw [List.length_take]; omega)
                          have hfo := frs_length (others (l.take k) f)
                          by_cases h4 : (k : Int) < l.length
                          · have hkl : k < l.length := by omega
                            have hst : others (l.take (k + 1)) f = others (l.take k) f ++ (if l[k] = f then [] else [l[k]]) := by
                              rw [List.take_add_one, List.getElem?_eq_getElem hkl, others_app]
                              congr 1
                              show others [l[k]] f = _
                              unfold others
                              by_cases e : l[k] = f
                              · simp [e]
                              · simp [e]
                            conv => whnf
                            refine acond_t (decide_eq_true h4) ?_
                            conv => whnf
                            refine ADraw.of tok mixed false [0, 1, 2, 3, 4, 5] [] (by kernel_rfl) (fun _ _ _ _ h => h) ?_
                            conv => whnf
                            refine ⟨⟨by omega, h4⟩, ?_⟩
                            conv => whnf
                            refine aget_fr (k := k) (by omega) hkl ?_
                            conv => whnf
                            refine ⟨flatFrame, ?_⟩
                            conv => whnf
                            by_cases e : l[k] = f
                            · rw [if_pos e, List.append_nil] at hst
                              refine acond_f (by rw [fr_eq, decide_eq_true e]; rfl) ?_
                              conv => whnf
                              refine Gh.regs [18, 17, 12, 8, 3, 4] (Gh.of ⟨l.length - (k + 1), by omega, k + 1, g, by omega, rfl, by rw [hst]; exact hg, by rw [hst], ?_⟩)
                              rw [hst, w64 (by omega) (by omega)]; rfl
                            · rw [if_neg e] at hst
                              refine acond_t (by rw [fr_eq, decide_eq_false e]; rfl) ?_
                              conv => whnf
                              refine ⟨⟨by omega, h4⟩, ?_⟩
                              conv => whnf
                              refine aget_fr (k := k) (by omega) hkl ?_
                              conv => whnf
                              refine ⟨by dsimp only; omega, ?_⟩
                              conv => whnf
                              refine ⟨by show 12 ≤ (12 : Nat); omega, ?_⟩
                              conv => whnf
                              refine ⟨rfl, by (try dsimp only); omega, by omega, fun g2 hg2 => ?_⟩
                              conv => whnf
                              refine Gh.regs [18, 17, 12, 8, 3, 4] (Gh.sel [0, 1, 2, 3, 6] rfl (Gh.of ⟨l.length - (k + 1), by omega, k + 1, g2, by omega, rfl, by rw [hst, List.length_append]; exact hg2, ?_, ?_⟩))
                              · rw [hst]
                                have hAq : List.take ((others (l.take k) f).length * 12) (List.drop 0 (frs (others (l.take k) f))) ++ (l[k]).cells = frs (others (l.take k) f ++ [l[k]]) := by
                                  rw [List.drop_zero, List.take_of_length_le (by omega), ← frs_one, ← frs_append]
                                show [_, Blk.c (subs _ (frs _)), _, Blk.c (subs _ _), Blk.c (subs _ (List.take ((others (l.take k) f).length * 12) (List.drop 0 (frs (others (l.take k) f))) ++ (l[k]).cells))] = _
                                rw [hAq]
                                simp only [subs_frs, hz]
                                rfl
                              · rw [hst]
                                refine keep_eq (show keepR _ _ = [_, _, _, _, _, _] from rfl) ?_
                                simp only [subG, sub, List.length_append, List.length_singleton]
                                rw [w64 (by omega) (by omega)]; rfl
                          · have hkl : k = l.length := by omega
                            subst hkl
                            rw [List.take_length] at hlk hfo hg
                            conv => whnf
                            refine acond_f (decide_eq_false h4) ?_
                            conv => whnf
                            refine ACall.frameH [2, 3] [] rfl (args' := [.p (some (0, 0)), f.av]) (Hc := [.c [.sl (some (1, 0)) 12 p.length c, .i .i64 16], .c (frs p ++ Y)]) rfl (by show [_, Blk.c (subs _ _)] = _; simp only [hz]; rfl) (qdrop_spec p f 16 c Y hc hY hYl hpl) ?_
                            clear hz
                            rintro r H (⟨hmm, _⟩ | ⟨_, rfl, c2, Y2, k1, k2, k3, rfl⟩)
                            · exact absurd hmm hnm
                            have hz : ∀ φ, subs φ (frs p ++ Y2) = frs p ++ Y2 := (Pl.frs _).app k2
                            refine ⟨.inl rfl, [.c f.cells, .c (frs l), .c [.sl (some (3, 0)) 12 p.length c2, .i .i64 16], .c (frs p ++ Y2), .c (frs (others (l.take l.length) f))], by show [_, _, _, Blk.c (subs _ _), _] = _; simp only [hz]; rfl, ?_⟩
                            conv => whnf
                            refine ACall.frameH [2, 3] [] rfl (args' := [.p (some (0, 0))]) (Hc := [.c [.sl (some (1, 0)) 12 p.length c2, .i .i64 16], .c (frs p ++ Y2)]) rfl (by show [_, Blk.c (subs _ _)] = _; simp only [hz]; rfl) (qall_spec p 16 c2 Y2 k2 hpl) ?_
                            rintro r H ⟨g3, hg3, rfl, rfl⟩
                            refine ⟨.inl rfl, [.c f.cells, .c (frs l), .c [.sl (some (3, 0)) 12 p.length c2, .i .i64 16], .c (frs p ++ Y2), .c (frs (others (l.take l.length) f)), .c (frs p)], by show [_, _, _, Blk.c (subs _ _), _, Blk.c (subs _ _)] = _; simp only [hz, subs_frs]; rfl, ?_⟩
                            conv => whnf
                            refine ACall.frameH [] [5, 4] rfl (args' := [.rs (frs p) 0 12 p.length, .rs (frs (others (l.take l.length) f)) 0 12 (others (l.take l.length) f).length]) (Hc := []) (by show [AV.rs (subs _ (frs p)) 0 12 p.length, AV.rs (subs _ (frs (others (l.take l.length) f))) 0 12 (others (l.take l.length) f).length] = _; simp only [subs_frs]) rfl (same_spec p (others (l.take l.length) f) (by omega)) ?_
                            rintro r H ⟨rfl, rfl⟩
                            rw [decide_eq_true (show p = (others (l.take l.length) f) from by rw [List.take_length]; exact hpo)]
                            refine ⟨.inr ⟨rfl, rfl⟩, [.c f.cells, .c (frs l), .c [.sl (some (3, 0)) 12 p.length c2, .i .i64 16], .c (frs p ++ Y2), .c (frs (others (l.take l.length) f)), .c (frs p)], rfl, ?_⟩
                            conv => whnf
                            refine ACall.frameH [] [] rfl (args' := []) (Hc := []) rfl rfl awake9_spec ?_
                            rintro r H ⟨rfl, rfl⟩
                            refine ⟨.inl rfl, _, rfl, ?_⟩
                            conv => whnf
                            exact GhR.sel [] rfl (GhR.of ⟨rfl, rfl⟩)
                  · exact absurd rfl h0
                · refine ACall.frameH [4, 5] [] rfl (args' := [.p (some (0, 0)), f.av]) (Hc := [.c [.sl (some (1, 0)) 12 l.length d2, .i .i64 16], .c (frs l ++ Z)]) rfl (by show [_, Blk.c (subs _ _)] = _; simp only [hzZ]; rfl) hput ?_
                  rintro r H ⟨rfl, ⟨h0, _⟩ | ⟨_, e, X, hp1, hp2, hp3, rfl⟩⟩
                  · cases h0
                  have hzX : ∀ φ, subs φ (frs l ++ X) = frs l ++ X := (Pl.frs _).app hp2
                  refine ⟨.inl rfl, [.c f.cells, .c [.sl (some (2, 0)) 12 l.length c1, .i .i64 16], .c (frs l ++ Y1), .c (frs l), .c [.sl (some (5, 0)) 12 l.length e, .i .i64 16], .c (frs l ++ X), .c (frs l)], by show [_, _, _, _, _, Blk.c (subs _ _), _] = _; simp only [hzX]; rfl, ?_⟩
                  conv => whnf
                  refine ACall.frameH [4, 5] [] rfl (args' := [.p (some (0, 0))]) (Hc := [.c [.sl (some (1, 0)) 12 l.length e, .i .i64 16], .c (frs l ++ X)]) rfl (by show [_, Blk.c (subs _ _)] = _; simp only [hzX]; rfl) (qall_spec l 16 e X hp2 (by omega)) ?_
                  rintro r H ⟨g3, hg3, rfl, rfl⟩
                  refine ⟨.inl rfl, [.c f.cells, .c [.sl (some (2, 0)) 12 l.length c1, .i .i64 16], .c (frs l ++ Y1), .c (frs l), .c [.sl (some (5, 0)) 12 l.length e, .i .i64 16], .c (frs l ++ X), .c (frs l), .c (frs l)], by show [_, _, _, _, _, Blk.c (subs _ _), _, Blk.c (subs _ _)] = _; simp only [hzX, subs_frs]; rfl, ?_⟩
                  conv => whnf
                  refine ACall.frameH [] [7, 3] rfl (args' := [.rs (frs l) 0 12 l.length, .rs (frs l) 0 12 l.length]) (Hc := []) (by show [AV.rs (subs _ (frs l)) 0 12 l.length, AV.rs (subs _ (frs l)) 0 12 l.length] = _; simp only [subs_frs]) rfl (same_spec l l (by omega)) ?_
                  rintro r H ⟨rfl, rfl⟩
                  rw [decide_eq_true rfl]
                  refine ⟨.inr ⟨rfl, rfl⟩, [.c f.cells, .c [.sl (some (2, 0)) 12 l.length c1, .i .i64 16], .c (frs l ++ Y1), .c (frs l), .c [.sl (some (5, 0)) 12 l.length e, .i .i64 16], .c (frs l ++ X), .c (frs l), .c (frs l)], rfl, ?_⟩
                  conv => whnf
                  refine ACall.frameH [] [] rfl (args' := []) (Hc := []) rfl rfl awake9_spec ?_
                  rintro r H ⟨rfl, rfl⟩
                  refine ⟨.inl rfl, _, rfl, ?_⟩
                  conv => whnf
                  exact GhR.sel [] rfl (GhR.of ⟨rfl, rfl⟩)
                · refine ACall.frameH [4, 5] [] rfl (args' := [.p (some (0, 0)), f.av]) (Hc := [.c [.sl (some (1, 0)) 12 l.length d2, .i .i64 16], .c (frs l ++ Z)]) rfl (by show [_, Blk.c (subs _ _)] = _; simp only [hzZ]; rfl) hput ?_
                  rintro r H ⟨rfl, ⟨h0, _⟩ | ⟨_, e, X, hp1, hp2, hp3, rfl⟩⟩
                  · cases h0
                  have hzX : ∀ φ, subs φ (frs l ++ X) = frs l ++ X := (Pl.frs _).app hp2
                  refine ⟨.inl rfl, [.c f.cells, .c [.sl (some (2, 0)) 12 l.length c1, .i .i64 16], .c (frs l ++ Y1), .c (frs l), .c [.sl (some (5, 0)) 12 l.length e, .i .i64 16], .c (frs l ++ X), .c (frs l)], by show [_, _, _, _, _, Blk.c (subs _ _), _] = _; simp only [hzX]; rfl, ?_⟩
                  conv => whnf
                  repeat (refine acond_t (t := ((l.length : Int) == 16)) (beq_iff_eq.2 (by omega)) ?_; conv => whnf)
                  refine ACall.frameH [4, 5] [] rfl (args' := [.p (some (0, 0))]) (Hc := [.c [.sl (some (1, 0)) 12 l.length e, .i .i64 16], .c (frs l ++ X)]) rfl (by show [_, Blk.c (subs _ _)] = _; simp only [hzX]; rfl) (qall_spec l 16 e X hp2 (by omega)) ?_
                  rintro r H ⟨g3, hg3, rfl, rfl⟩
                  refine ⟨.inl rfl, [.c f.cells, .c [.sl (some (2, 0)) 12 l.length c1, .i .i64 16], .c (frs l ++ Y1), .c (frs l), .c [.sl (some (5, 0)) 12 l.length e, .i .i64 16], .c (frs l ++ X), .c (frs l), .c (frs l)], by show [_, _, _, _, _, Blk.c (subs _ _), _, Blk.c (subs _ _)] = _; simp only [hzX, subs_frs]; rfl, ?_⟩
                  conv => whnf
                  repeat (refine acond_t (t := ((l.length : Int) == 16)) (beq_iff_eq.2 (by omega)) ?_; conv => whnf)
                  refine ACall.frameH [] [7, 3] rfl (args' := [.rs (frs l) 0 12 l.length, .rs (frs l) 0 12 l.length]) (Hc := []) (by show [AV.rs (subs _ (frs l)) 0 12 l.length, AV.rs (subs _ (frs l)) 0 12 l.length] = _; simp only [subs_frs]) rfl (same_spec l l (by omega)) ?_
                  rintro r H ⟨rfl, rfl⟩
                  rw [decide_eq_true rfl]
                  refine ⟨.inr ⟨rfl, rfl⟩, [.c f.cells, .c [.sl (some (2, 0)) 12 l.length c1, .i .i64 16], .c (frs l ++ Y1), .c (frs l), .c [.sl (some (5, 0)) 12 l.length e, .i .i64 16], .c (frs l ++ X), .c (frs l), .c (frs l)], rfl, ?_⟩
                  conv => whnf
                  repeat (refine acond_t (t := ((l.length : Int) == 16)) (beq_iff_eq.2 (by omega)) ?_; conv => whnf)
                  refine ACall.frameH [] [] rfl (args' := []) (Hc := []) rfl rfl awake9_spec ?_
                  rintro r H ⟨rfl, rfl⟩
                  refine ⟨.inl rfl, _, rfl, ?_⟩
                  conv => whnf
                  repeat (refine acond_t (t := ((l.length : Int) == 16)) (beq_iff_eq.2 (by omega)) ?_; conv => whnf)
                  exact GhR.sel [] rfl (GhR.of ⟨rfl, rfl⟩)
end Go.AK
