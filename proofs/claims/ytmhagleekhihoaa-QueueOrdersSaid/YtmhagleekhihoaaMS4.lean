/- Texts SQLaw1, SQAwake, SQTop, SQPlain, SQSort, SQRefP, SSort, SIns, SSortF, SOrder, SRef3, SRef3B, SAwake, SPlace, SWrong, SPlain, SQRef, SQRef2, SQRef3: an evaluator of the model's code, proved sound, and what the program's functions do, for all inputs. -/
import Derived.Test.YtmhagleekhihoaaMS3
namespace Go.AK
open Go Go.RowKit Go.Proofs
set_option linter.unusedVariables false
set_option maxRecDepth 100000
/-- Acts, cell by cell. -/
def acs : List (Bool × Fr) → List AV
  | [] => []
  | a :: L => (.b a.1 :: a.2.cells) ++ acs L
theorem acs_length : ∀ (L : List (Bool × Fr)), (acs L).length = L.length * 13
  | [] => rfl
  | a :: L => by
    rw [acs, List.length_append, acs_length L, show (a :: L).length = L.length + 1 from rfl]
    show 13 + _ = _
    omega
theorem acs_drop : ∀ (L : List (Bool × Fr)) (k : Nat), (acs L).drop (k * 13) = acs (L.drop k)
  | L, 0 => by simp
  | [], k + 1 => by simp [acs]
  | a :: L, k + 1 => by
    rw [acs, List.drop_succ_cons, ← acs_drop L k, show (k + 1) * 13 = 13 + k * 13 from by omega, ← List.drop_drop]
    rfl
theorem acs_get {L : List (Bool × Fr)} {k : Nat} (hk : k < L.length) {j : Nat} (hj : j < 13) : (acs L)[k * 13 + j]? = (AV.b L[k].1 :: L[k].2.cells)[j]? := by
  rw [← List.getElem?_drop, acs_drop, List.drop_eq_getElem_cons hk, acs, List.getElem?_append_left (by show j < 13; exact hj)]
theorem subs_acs (φ : Nat → Sb) : ∀ (L : List (Bool × Fr)), subs φ (acs L) = acs L
  | [] => rfl
  | a :: L => by rw [acs, subs_app, subs_acs φ L]; rfl
theorem aget_act {L : List (Bool × Fr)} {k o : Nat} (ho : o = k * 13) (hk : k < L.length) {K : AV → AV → AV → AV → AV → AV → AV → AV → AV → AV → AV → AV → AV → Prop} (h : K (.b L[k].1) (.i .i64 L[k].2.id) (.b L[k].2.ext) (.b L[k].2.rtr) (.i .i64 L[k].2.len) (.i .u8 L[k].2.b0) (.i .u8 L[k].2.b1) (.i .u8 L[k].2.b2) (.i .u8 L[k].2.b3) (.i .u8 L[k].2.b4) (.i .u8 L[k].2.b5) (.i .u8 L[k].2.b6) (.i .u8 L[k].2.b7)) :
    aget (acs L) o fun v0 => aget (acs L) (o + 1) fun v1 => aget (acs L) ((o + 1) + 1) fun v2 => aget (acs L) (((o + 1) + 1) + 1) fun v3 => aget (acs L) ((((o + 1) + 1) + 1) + 1) fun v4 => aget (acs L) (((((o + 1) + 1) + 1) + 1) + 1) fun v5 => aget (acs L) ((((((o + 1) + 1) + 1) + 1) + 1) + 1) fun v6 => aget (acs L) (((((((o + 1) + 1) + 1) + 1) + 1) + 1) + 1) fun v7 => aget (acs L) ((((((((o + 1) + 1) + 1) + 1) + 1) + 1) + 1) + 1) fun v8 => aget (acs L) (((((((((o + 1) + 1) + 1) + 1) + 1) + 1) + 1) + 1) + 1) fun v9 => aget (acs L) ((((((((((o + 1) + 1) + 1) + 1) + 1) + 1) + 1) + 1) + 1) + 1) fun v10 => aget (acs L) (((((((((((o + 1) + 1) + 1) + 1) + 1) + 1) + 1) + 1) + 1) + 1) + 1) fun v11 => aget (acs L) ((((((((((((o + 1) + 1) + 1) + 1) + 1) + 1) + 1) + 1) + 1) + 1) + 1) + 1) fun v12 => K v0 v1 v2 v3 v4 v5 v6 v7 v8 v9 v10 v11 v12 := by
  subst ho
  have g : ∀ j (v : AV), j < 13 → (AV.b L[k].1 :: L[k].2.cells)[j]? = some v → (acs L)[k * 13 + j]? = some v := fun j v hj h => by rw [acs_get hk hj, h]
  unfold aget
  rw [show (acs L)[k * 13]? = some (.b L[k].1) from g 0 _ (by omega) rfl]
  dsimp only
  rw [show (acs L)[(k * 13 + 1)]? = some (.i .i64 L[k].2.id) from g 1 _ (by omega) rfl]
  dsimp only
  rw [show (acs L)[((k * 13 + 1) + 1)]? = some (.b L[k].2.ext) from g 2 _ (by omega) rfl]
  dsimp only
  rw [show (acs L)[(((k * 13 + 1) + 1) + 1)]? = some (.b L[k].2.rtr) from g 3 _ (by omega) rfl]
  dsimp only
  rw [show (acs L)[((((k * 13 + 1) + 1) + 1) + 1)]? = some (.i .i64 L[k].2.len) from g 4 _ (by omega) rfl]
  dsimp only
  rw [show (acs L)[(((((k * 13 + 1) + 1) + 1) + 1) + 1)]? = some (.i .u8 L[k].2.b0) from g 5 _ (by omega) rfl]
  dsimp only
  rw [show (acs L)[((((((k * 13 + 1) + 1) + 1) + 1) + 1) + 1)]? = some (.i .u8 L[k].2.b1) from g 6 _ (by omega) rfl]
  dsimp only
  rw [show (acs L)[(((((((k * 13 + 1) + 1) + 1) + 1) + 1) + 1) + 1)]? = some (.i .u8 L[k].2.b2) from g 7 _ (by omega) rfl]
  dsimp only
  rw [show (acs L)[((((((((k * 13 + 1) + 1) + 1) + 1) + 1) + 1) + 1) + 1)]? = some (.i .u8 L[k].2.b3) from g 8 _ (by omega) rfl]
  dsimp only
  rw [show (acs L)[(((((((((k * 13 + 1) + 1) + 1) + 1) + 1) + 1) + 1) + 1) + 1)]? = some (.i .u8 L[k].2.b4) from g 9 _ (by omega) rfl]
  dsimp only
  rw [show (acs L)[((((((((((k * 13 + 1) + 1) + 1) + 1) + 1) + 1) + 1) + 1) + 1) + 1)]? = some (.i .u8 L[k].2.b5) from g 10 _ (by omega) rfl]
  dsimp only
  rw [show (acs L)[(((((((((((k * 13 + 1) + 1) + 1) + 1) + 1) + 1) + 1) + 1) + 1) + 1) + 1)]? = some (.i .u8 L[k].2.b6) from g 11 _ (by omega) rfl]
  dsimp only
  rw [show (acs L)[((((((((((((k * 13 + 1) + 1) + 1) + 1) + 1) + 1) + 1) + 1) + 1) + 1) + 1) + 1)]? = some (.i .u8 L[k].2.b7) from g 12 _ (by omega) rfl]
  exact h

def actAV (a : Bool × Fr) : AV := .agg (.b a.1 :: a.2.cells)
/-- What an act tells, and what is in then. -/
def actE (l : List Fr) (most : Int) (a : Bool × Fr) : Int := if a.1 = true then (if a.2 ∈ l then 0 else 16) else putE l a.2 most
def actL (l : List Fr) (most : Int) (a : Bool × Fr) : List Fr := if a.1 = true then (if a.2 ∈ l then dropL l a.2 else l) else (if putE l a.2 most = 0 then putL l a.2 else l)
theorem does_spec (l : List Fr) (hok : ∀ F ∈ l, F.ok) (a : Bool × Fr) (ha : a.2.ok) (most : Int) (c : Nat) (Y : List AV) (hc : l.length ≤ c) (hY : Pl Y) (hYl : Y.length = (c - l.length) * 12) (hl : l.length < 1000000) :
    ACall Try.prog 16 [.p (some (0, 0)), actAV a] [.c [.sl (some (1, 0)) 12 l.length c, .i .i64 most], .c (frs l ++ Y)] fun r H => r = .ret (.i .i64 (actE l most a)) ∧ (QIn (actL l most a) most H ∨ QMv (actL l most a) most H) := by
  obtain ⟨d, F⟩ := a
  refine ACall.gh ?_
  refine ACall.enter tok false Try.func16 rfl rfl rfl (AW_sound (ip := false) tok _ _ _ _ ?_)
  have hp : Pl (frs l ++ Y) := (Pl.frs l).app hY
  cases d
  · conv => whnf
    refine ACall.frame [0, 1] [] rfl (args' := [.p (some (0, 0)), F.av]) (Hc := [.c [.sl (some (1, 0)) 12 l.length c, .i .i64 most], .c (frs l ++ Y)]) rfl (by show [_, Blk.c (subs _ (frs l ++ Y))] = _; rw [hp]; rfl) (qput_spec l hok F ha most c Y hc hY hYl hl) ?_
    rintro r H ⟨rfl, ⟨h0, ⟨d, Z, k1, k2, k3, rfl⟩ | ⟨d, Z, k1, k2, k3, rfl⟩⟩ | ⟨h0, d, Z, k1, k2, k3, rfl⟩⟩
    · have hL : actL l most (false, F) = putL l F := by unfold actL; rw [if_neg (by simp), if_pos h0]
      refine ⟨.inl rfl, ?_⟩
      conv => whnf
      have hz : Pl (frs (putL l F) ++ Z) := (Pl.frs _).app k2
      refine GhR.sel [0, 1] rfl (GhR.of ⟨rfl, .inl ⟨d, Z, by rw [hL]; exact k1, k2, by rw [hL]; exact k3, ?_⟩⟩)
      rw [hL]
      show [_, Blk.c (subs _ (subs _ (frs (putL l F) ++ Z)))] = _
      rw [hz, hz]
      rfl
    · have hL : actL l most (false, F) = putL l F := by unfold actL; rw [if_neg (by simp), if_pos h0]
      refine ⟨.inl rfl, ?_⟩
      conv => whnf
      have hz : Pl (frs (putL l F) ++ Z) := (Pl.frs _).app k2
      refine GhR.sel [0, 1, 3] rfl (GhR.of ⟨rfl, .inr ⟨d, Z, by rw [hL]; exact k1, k2, by rw [hL]; exact k3, ?_⟩⟩)
      rw [hL]
      show [_, _, Blk.c (subs _ (subs _ (frs (putL l F) ++ Z)))] = _
      rw [hz, hz]
      rfl
    · have hL : actL l most (false, F) = l := by unfold actL; rw [if_neg (by simp), if_neg h0]
      refine ⟨.inl rfl, ?_⟩
      conv => whnf
      have hz : Pl (frs l ++ Z) := (Pl.frs _).app k2
      refine GhR.sel [0, 1] rfl (GhR.of ⟨rfl, .inl ⟨d, Z, by rw [hL]; exact k1, k2, by rw [hL]; exact k3, ?_⟩⟩)
      rw [hL]
      show [_, Blk.c (subs _ (subs _ (frs l ++ Z)))] = _
      rw [hz, hz]
      rfl
  · conv => whnf
    refine ACall.frame [0, 1] [] rfl (args' := [.p (some (0, 0)), F.av]) (Hc := [.c [.sl (some (1, 0)) 12 l.length c, .i .i64 most], .c (frs l ++ Y)]) rfl (by show [_, Blk.c (subs _ (frs l ++ Y))] = _; rw [hp]; rfl) (qdrop_spec l F most c Y hc hY hYl hl) ?_
    rintro r H (⟨hm, rfl, d, Z, k1, k2, k3, rfl⟩ | ⟨hm, rfl, d, Z, k1, k2, k3, rfl⟩)
    · have hL : actL l most (true, F) = dropL l F := by unfold actL; rw [if_pos rfl, if_pos hm]
      have hE : actE l most (true, F) = 0 := by unfold actE; rw [if_pos rfl, if_pos hm]
      refine ⟨.inl rfl, ?_⟩
      conv => whnf
      have hz : Pl (frs (dropL l F) ++ Z) := (Pl.frs _).app k2
      refine GhR.sel [0, 1] rfl (GhR.of ⟨by rw [hE]; rfl, .inl ⟨d, Z, by rw [hL]; exact k1, k2, by rw [hL]; exact k3, ?_⟩⟩)
      rw [hL]
      show [_, Blk.c (subs _ (subs _ (frs (dropL l F) ++ Z)))] = _
      rw [hz, hz]
      rfl
    · have hL : actL l most (true, F) = l := by unfold actL; rw [if_pos rfl, if_neg hm]
      have hE : actE l most (true, F) = 16 := by unfold actE; rw [if_pos rfl, if_neg hm]
      refine ⟨.inl rfl, ?_⟩
      conv => whnf
      have hz : Pl (frs l ++ Z) := (Pl.frs _).app k2
      refine GhR.sel [0, 1] rfl (GhR.of ⟨by rw [hE]; rfl, .inl ⟨d, Z, by rw [hL]; exact k1, k2, by rw [hL]; exact k3, ?_⟩⟩)
      rw [hL]
      show [_, Blk.c (subs _ (subs _ (frs l ++ Z)))] = _
      rw [hz, hz]
      rfl
theorem does_nil (a : Bool × Fr) (ha : a.2.ok) (most : Int) (hmost : 1 ≤ most) :
    ACall Try.prog 16 [.p (some (0, 0)), actAV a] [.c [.sl none 0 0 0, .i .i64 most]] fun r H => r = .ret (.i .i64 (actE [] most a)) ∧ ((actL [] most a = [] ∧ QNil most H) ∨ QIn (actL [] most a) most H) := by
  obtain ⟨d, F⟩ := a
  refine ACall.gh ?_
  refine ACall.enter tok false Try.func16 rfl rfl rfl (AW_sound (ip := false) tok _ _ _ _ ?_)
  cases d
  · conv => whnf
    refine ACall.frame [0] [] rfl (args' := [.p (some (0, 0)), F.av]) (Hc := [.c [.sl none 0 0 0, .i .i64 most]]) rfl rfl (qput_nil F ha most hmost) ?_
    rintro r H ⟨rfl, ⟨h0, d, Z, k1, k2, k3, rfl⟩ | ⟨h0, rfl⟩⟩
    · have hE : actE [] most (false, F) = F.chk := by
        unfold actE putE; rw [if_neg (by simp), if_pos h0, if_neg (by simp; omega), Fr.good h0]
      have hL : actL [] most (false, F) = [F] := by
        have hpe : putE [] F most = 0 := by unfold putE; rw [if_pos h0, if_neg (by simp; omega)]
        unfold actL; rw [if_neg (by simp), if_pos hpe]; rfl
      refine ⟨.inl rfl, ?_⟩
      conv => whnf
      have hz : Pl (frs [F] ++ Z) := (Pl.frs _).app k2
      refine GhR.sel [0, 2] rfl (GhR.of ⟨by rw [hE]; rfl, .inr ⟨d, Z, by rw [hL]; exact k1, k2, by rw [hL]; exact k3, ?_⟩⟩)
      rw [hL]
      show [_, Blk.c (subs _ (subs _ (frs [F] ++ Z)))] = _
      rw [hz, hz]
      rfl
    · have hE : actE [] most (false, F) = F.chk := by
        unfold actE putE; rw [if_neg (by simp), if_neg h0, Fr.bad h0]
      have hL : actL [] most (false, F) = [] := by
        unfold actL putE; rw [if_neg (by simp), if_neg h0, if_neg (by decide)]
      refine ⟨.inl rfl, ?_⟩
      conv => whnf
      exact GhR.sel [0] rfl (GhR.of ⟨by rw [hE]; rfl, .inl ⟨hL, rfl⟩⟩)
  · conv => whnf
    refine ACall.frame [0] [] rfl (args' := [.p (some (0, 0)), F.av]) (Hc := [.c [.sl none 0 0 0, .i .i64 most]]) rfl rfl (qdrop_nil F most) ?_
    rintro r H ⟨rfl, rfl⟩
    refine ⟨.inl rfl, ?_⟩
    conv => whnf
    exact GhR.sel [0] rfl (GhR.of ⟨rfl, .inl ⟨rfl, rfl⟩⟩)
theorem same_spec (L M : List Fr) (hL : L.length < 1000000000) : ACall Try.prog 20 [.rs (frs L) 0 12 L.length, .rs (frs M) 0 12 M.length] [] fun r H => r = .ret (.b (decide (L = M))) ∧ H = [] := by
  refine ACall.enter tok false Try.func20 rfl rfl rfl (AW_sound (ip := false) tok _ _ _ _ ?_)
  conv => whnf
  by_cases hl : L.length = M.length
  · refine acond_f (t := ((L.length : Int) != (M.length : Int))) (by rw [hl]; exact bne_self_eq_false _) ?_
    conv => whnf
    refine ALoop.ind (ip := false) tok (fun m r H => ∃ (k : Nat), k ≤ L.length ∧ m = L.length - k ∧ L.take k = M.take k ∧ H = [] ∧
      r = [(5, .i .i64 k), (0, .rs (frs L) 0 12 L.length), (1, .rs (frs M) 0 12 M.length), (4, .b false)]) L.length ?_ ?_
    · exact Gh.regs [5, 0, 1, 4] (Gh.of ⟨0, by omega, by omega, rfl, rfl, rfl⟩)
    · rintro m r H ⟨k, hk, rfl, hn, rfl, rfl⟩
      by_cases h : (k : Int) < L.length
      · have hk1 : k < L.length := by omega
        have hk2 : k < M.length := by omega
        conv => whnf
        refine acond_t (decide_eq_true h) ?_
        conv => whnf
        refine ADraw.of tok mixed false [0, 1, 2, 3, 4, 5, 6, 7, 8] [] (by kernel_rfl) (fun _ _ _ _ h => h) ?_
        conv => whnf
        refine ⟨⟨by omega, by omega⟩, ?_⟩
        conv => whnf
        refine aget_fr (k := k) (by omega) hk1 ?_
        conv => whnf
        refine ⟨⟨by omega, by omega⟩, ?_⟩
        conv => whnf
        refine aget_fr (k := k) (by omega) hk2 ?_
        conv => whnf
        refine ⟨flatFrame, ?_⟩
        conv => whnf
        by_cases he : L[k] = M[k]
        · refine acond_f (by rw [fr_eq, decide_eq_true he]; rfl) ?_
          conv => whnf
          refine Gh.regs [5, 0, 1, 4] (Gh.of ⟨L.length - (k + 1), by omega, k + 1, by omega, rfl, ?_, rfl, ?_⟩)
          · rw [List.take_add_one, List.take_add_one, hn, List.getElem?_eq_getElem hk1, List.getElem?_eq_getElem hk2, he]
          · rw [w64 (by omega) (by omega)]; rfl
        · refine acond_t (by rw [fr_eq, decide_eq_false he]; rfl) ?_
          conv => whnf
          refine ⟨?_, rfl⟩
          rw [decide_eq_false (fun h => he (by subst h; rfl))]
      · conv => whnf
        refine acond_f (decide_eq_false h) ?_
        conv => whnf
        refine ⟨?_, rfl⟩
        have hkl : k = L.length := by omega
        rw [hkl, List.take_length, hl, List.take_length] at hn
        rw [decide_eq_true hn]
  · refine acond_t (t := ((L.length : Int) != (M.length : Int))) (bne_iff_ne.2 (by omega)) ?_
    conv => whnf
    refine ⟨?_, rfl⟩
    rw [decide_eq_false (fun h => hl (by rw [h]))]
end Go.AK
namespace Go.AK
open Go Go.RowKit Go.Proofs
set_option linter.unusedVariables false
set_option maxRecDepth 100000
def frQ (id : Int) (ext : Bool) : Fr := ⟨id, ext, false, 0, 0, 0, 0, 0, 0, 0, 0, 0⟩
theorem frQ_ok (id : Int) (ext : Bool) (h : -9223372036854775808 ≤ id ∧ id ≤ 9223372036854775807) : (frQ id ext).ok := ⟨h, by show (-9223372036854775808 : Int) ≤ 0 ∧ (0 : Int) ≤ 9223372036854775807; omega, fun x hx => by
    have : x ∈ List.replicate 8 (0 : Int) := hx
    rw [(List.mem_replicate.1 this).2]; omega⟩
theorem qput_ok (l : List Fr) (F : Fr) (l' : List Fr) (hok : ∀ F ∈ l, F.ok) (hF : F.ok) (most : Int) (c : Nat) (Y : List AV) (hc : l.length ≤ c) (hY : Pl Y) (hYl : Y.length = (c - l.length) * 12) (he : putE l F most = 0) (hl' : putL l F = l') (hl : l.length < 1000000 := by decide) :
    ACall Try.prog 21 [.p (some (0, 0)), F.av] [.c [.sl (some (1, 0)) 12 l.length c, .i .i64 most], .c (frs l ++ Y)] fun r H => r = .ret (.i .i64 0) ∧ (QIn l' most H ∨ QMv l' most H) := by
  refine ACall.mono (qput_spec l hok F hF most c Y hc hY hYl hl) ?_
  rw [he, hl']
  rintro r H ⟨rfl, ⟨_, h⟩ | ⟨h, _⟩⟩
  · exact ⟨rfl, h⟩
  · exact absurd rfl h
theorem qdrop_ok (l : List Fr) (F : Fr) (l' : List Fr) (most : Int) (c : Nat) (Y : List AV) (hc : l.length ≤ c) (hY : Pl Y) (hYl : Y.length = (c - l.length) * 12) (hm : F ∈ l) (hl' : dropL l F = l') (hl : l.length < 1000000 := by decide) :
    ACall Try.prog 19 [.p (some (0, 0)), F.av] [.c [.sl (some (1, 0)) 12 l.length c, .i .i64 most], .c (frs l ++ Y)] fun r H => r = .ret (.i .i64 0) ∧ QIn l' most H := by
  refine ACall.mono (qdrop_spec l F most c Y hc hY hYl hl) ?_
  rw [hl']
  rintro r H (⟨_, rfl, h⟩ | ⟨h, _⟩)
  · exact ⟨rfl, h⟩
  · exact absurd hm h
theorem okF (n : Int) (h : -9223372036854775808 ≤ n ∧ n ≤ 9223372036854775807 := by omega) : (frQ n false).ok := frQ_ok n false h
set_option maxHeartbeats 1000000 in
theorem awake9_spec : ACall Try.prog 14 [] [] fun r H => r = .ret (.b true) ∧ H = [] := by
  refine ACall.gh ?_
  refine ACall.enter tok false Try.func14 rfl rfl rfl (AW_sound (ip := false) tok _ _ _ _ ?_)
  conv => whnf
  refine ACall.frame [] [] rfl (args' := [.i .i64 3]) (Hc := []) rfl rfl (qnew_spec 3) ?_
  rintro r H (⟨h, _⟩ | ⟨_, _, rfl, rfl⟩)
  · omega
  refine ⟨.inl rfl, ?_⟩
  conv => whnf
  refine ACall.frame [] [] rfl (args' := [.i .i64 1]) (Hc := []) rfl rfl (qnew_spec 1) ?_
  rintro r H (⟨h, _⟩ | ⟨_, _, rfl, rfl⟩)
  · omega
  refine ⟨.inl rfl, ?_⟩
  conv => whnf
  refine ACall.frameH [0] [] rfl (args' := [.p (some (0, 0)), (frQ 5 false).av]) (Hc := [.c [.sl none 0 0 0, .i .i64 3]]) rfl rfl (qput_nil (frQ 5 false) (okF 5) 3 (by omega)) ?_
  rintro r H ⟨rfl, hh⟩
  obtain ⟨_, c, Y, hc, hY, hYl, rfl⟩ := hh.resolve_right (fun h0 => h0.1 (by decide))
  have hz : ∀ φ, subs φ (frs [frQ 5 false] ++ Y) = frs [frQ 5 false] ++ Y := (Pl.frs _).app hY
  rw [show (frQ 5 false).chk = 0 from by kernel_rfl]
  refine ⟨.inl rfl, [.c [.sl (some (2, 0)) 12 1 c, .i .i64 3], .c [.sl none 0 0 0, .i .i64 1], .c (frs [frQ 5 false] ++ Y)], by show [_, _, Blk.c (subs _ _)] = _; simp only [hz]; rfl, ?_⟩
  conv => whnf
  refine ACall.frameH [0, 2] [] rfl (args' := [.p (some (0, 0)), (frQ 3 false).av]) (Hc := [.c [.sl (some (1, 0)) 12 1 c, .i .i64 3], .c (frs [frQ 5 false] ++ Y)]) rfl (by show [_, Blk.c (subs _ _)] = _; rw [hz]; rfl) (qput_ok [frQ 5 false] (frQ 3 false) [frQ 3 false, frQ 5 false] (by intro X hX; simp only [List.mem_cons, List.not_mem_nil, or_false] at hX; all_goals (first | (rcases hX with rfl | rfl | rfl <;> exact okF _) | (rcases hX with rfl | rfl <;> exact okF _) | (subst hX; exact okF _))) (okF 3) 3 c Y hc hY hYl (by kernel_rfl) (by kernel_rfl)) ?_
  clear hz
  rintro r H ⟨rfl, ⟨c, Y, hc, hY, hYl, rfl⟩ | ⟨c, Y, hc, hY, hYl, rfl⟩⟩
  · have hz : ∀ φ, subs φ (frs [frQ 3 false, frQ 5 false] ++ Y) = frs [frQ 3 false, frQ 5 false] ++ Y := (Pl.frs _).app hY
    refine ⟨.inl rfl, [.c [.sl (some (2, 0)) 12 2 c, .i .i64 3], .c [.sl none 0 0 0, .i .i64 1], .c (frs [frQ 3 false, frQ 5 false] ++ Y)], by show [_, _, Blk.c (subs _ _)] = _; simp only [hz]; rfl, ?_⟩
    conv => whnf
    refine ACall.frameH [0, 2] [] rfl (args' := [.p (some (0, 0)), (frQ 4 false).av]) (Hc := [.c [.sl (some (1, 0)) 12 2 c, .i .i64 3], .c (frs [frQ 3 false, frQ 5 false] ++ Y)]) rfl (by show [_, Blk.c (subs _ _)] = _; rw [hz]; rfl) (qput_ok [frQ 3 false, frQ 5 false] (frQ 4 false) [frQ 3 false, frQ 4 false, frQ 5 false] (by intro X hX; simp only [List.mem_cons, List.not_mem_nil, or_false] at hX; all_goals (first | (rcases hX with rfl | rfl | rfl <;> exact okF _) | (rcases hX with rfl | rfl <;> exact okF _) | (subst hX; exact okF _))) (okF 4) 3 c Y hc hY hYl (by kernel_rfl) (by kernel_rfl)) ?_
    clear hz
    rintro r H ⟨rfl, ⟨c, Y, hc, hY, hYl, rfl⟩ | ⟨c, Y, hc, hY, hYl, rfl⟩⟩
    · have hz : ∀ φ, subs φ (frs [frQ 3 false, frQ 4 false, frQ 5 false] ++ Y) = frs [frQ 3 false, frQ 4 false, frQ 5 false] ++ Y := (Pl.frs _).app hY
      refine ⟨.inl rfl, [.c [.sl (some (2, 0)) 12 3 c, .i .i64 3], .c [.sl none 0 0 0, .i .i64 1], .c (frs [frQ 3 false, frQ 4 false, frQ 5 false] ++ Y)], by show [_, _, Blk.c (subs _ _)] = _; simp only [hz]; rfl, ?_⟩
      conv => whnf
      refine ACall.frameH [0, 2] [] rfl (args' := [.p (some (0, 0)), (frQ 4 false).av]) (Hc := [.c [.sl (some (1, 0)) 12 3 c, .i .i64 3], .c (frs [frQ 3 false, frQ 4 false, frQ 5 false] ++ Y)]) rfl (by show [_, Blk.c (subs _ _)] = _; rw [hz]; rfl) (qdrop_ok [frQ 3 false, frQ 4 false, frQ 5 false] (frQ 4 false) [frQ 3 false, frQ 5 false] 3 c Y hc hY hYl (by decide) (by kernel_rfl)) ?_
      clear hz
      rintro r H ⟨rfl, c, Y, hc, hY, hYl, rfl⟩
      have hz : ∀ φ, subs φ (frs [frQ 3 false, frQ 5 false] ++ Y) = frs [frQ 3 false, frQ 5 false] ++ Y := (Pl.frs _).app hY
      refine ⟨.inl rfl, [.c [.sl (some (2, 0)) 12 2 c, .i .i64 3], .c [.sl none 0 0 0, .i .i64 1], .c (frs [frQ 3 false, frQ 5 false] ++ Y)], by show [_, _, Blk.c (subs _ _)] = _; simp only [hz]; rfl, ?_⟩
      conv => whnf
      refine ACall.frameH [1] [] rfl (args' := [.p (some (0, 0)), (frQ 1 false).av]) (Hc := [.c [.sl none 0 0 0, .i .i64 1]]) rfl rfl (qput_nil (frQ 1 false) (okF 1) 1 (by omega)) ?_
      rintro r H ⟨rfl, hh⟩
      obtain ⟨_, e, Z, he, hZ, hZl, rfl⟩ := hh.resolve_right (fun h0 => h0.1 (by decide))
      have hz2 : ∀ φ, subs φ (frs [frQ 1 false] ++ Z) = frs [frQ 1 false] ++ Z := (Pl.frs _).app hZ
      rw [show (frQ 1 false).chk = 0 from by kernel_rfl]
      refine ⟨.inl rfl, [.c [.sl (some (2, 0)) 12 2 c, .i .i64 3], .c [.sl (some (3, 0)) 12 1 e, .i .i64 1], .c (frs [frQ 3 false, frQ 5 false] ++ Y), .c (frs [frQ 1 false] ++ Z)], by show [_, _, _, Blk.c (subs _ _)] = _; simp only [hz2]; rfl, ?_⟩
      conv => whnf
      refine ACall.frameH [0, 2] [] rfl (args' := [.p (some (0, 0))]) (Hc := [.c [.sl (some (1, 0)) 12 2 c, .i .i64 3], .c (frs [frQ 3 false, frQ 5 false] ++ Y)]) rfl (by show [_, Blk.c (subs _ _)] = _; rw [hz]; rfl) (qall_spec [frQ 3 false, frQ 5 false] 3 c Y hY (by decide)) ?_
      rintro r H ⟨g, hg, rfl, rfl⟩
      refine ⟨.inl rfl, [.c [.sl (some (2, 0)) 12 2 c, .i .i64 3], .c [.sl (some (3, 0)) 12 1 e, .i .i64 1], .c (frs [frQ 3 false, frQ 5 false] ++ Y), .c (frs [frQ 1 false] ++ Z), .c (frs [frQ 3 false, frQ 5 false])], by show [_, _, Blk.c (subs _ _), _, Blk.c (subs _ _)] = _; simp only [hz, subs_frs]; rfl, ?_⟩
      conv => whnf
      refine ACall.frameH [] [4, 5] rfl (args' := [.rs (frs [frQ 3 false, frQ 5 false]) 0 12 2, .rs (frs [frQ 3 false, frQ 5 false]) 0 12 2]) (Hc := []) rfl rfl (same_spec [frQ 3 false, frQ 5 false] [frQ 3 false, frQ 5 false] (by decide)) ?_
      rintro r H ⟨rfl, rfl⟩
      rw [decide_eq_true rfl]
      refine ⟨.inr ⟨rfl, rfl⟩, [.c [.sl (some (2, 0)) 12 2 c, .i .i64 3], .c [.sl (some (3, 0)) 12 1 e, .i .i64 1], .c (frs [frQ 3 false, frQ 5 false] ++ Y), .c (frs [frQ 1 false] ++ Z), .c (frs [frQ 3 false, frQ 5 false]), .c (frs [frQ 3 false, frQ 5 false])], rfl, ?_⟩
      conv => whnf
      refine ACall.frameH [1, 3] [] rfl (args' := [.p (some (0, 0)), (frQ 0 false).av]) (Hc := [.c [.sl (some (1, 0)) 12 1 e, .i .i64 1], .c (frs [frQ 1 false] ++ Z)]) rfl (by show [_, Blk.c (subs _ _)] = _; rw [hz2]; rfl) (qput_spec [frQ 1 false] (by intro X hX; simp only [List.mem_cons, List.not_mem_nil, or_false] at hX; all_goals (first | (rcases hX with rfl | rfl | rfl <;> exact okF _) | (rcases hX with rfl | rfl <;> exact okF _) | (subst hX; exact okF _))) (frQ 0 false) (okF 0) 1 e Z he hZ hZl (by decide)) ?_
      rw [show putE [frQ 1 false] (frQ 0 false) 1 = 15 from by kernel_rfl]
      rintro r H ⟨rfl, ⟨h0, _⟩ | ⟨_, e, Z, _, _, _, rfl⟩⟩
      · cases h0
      refine ⟨.inl rfl, _, rfl, ?_⟩
      conv => whnf
      exact GhR.sel [] rfl (GhR.of ⟨rfl, rfl⟩)
    · have hz : ∀ φ, subs φ (frs [frQ 3 false, frQ 4 false, frQ 5 false] ++ Y) = frs [frQ 3 false, frQ 4 false, frQ 5 false] ++ Y := (Pl.frs _).app hY
      refine ⟨.inl rfl, [.c [.sl (some (3, 0)) 12 3 c, .i .i64 3], .c [.sl none 0 0 0, .i .i64 1], .dead, .c (frs [frQ 3 false, frQ 4 false, frQ 5 false] ++ Y)], by show [_, _, _, Blk.c (subs _ _)] = _; simp only [hz]; rfl, ?_⟩
      conv => whnf
      refine ACall.frameH [0, 3] [] rfl (args' := [.p (some (0, 0)), (frQ 4 false).av]) (Hc := [.c [.sl (some (1, 0)) 12 3 c, .i .i64 3], .c (frs [frQ 3 false, frQ 4 false, frQ 5 false] ++ Y)]) rfl (by show [_, Blk.c (subs _ _)] = _; rw [hz]; rfl) (qdrop_ok [frQ 3 false, frQ 4 false, frQ 5 false] (frQ 4 false) [frQ 3 false, frQ 5 false] 3 c Y hc hY hYl (by decide) (by kernel_rfl)) ?_
      clear hz
      rintro r H ⟨rfl, c, Y, hc, hY, hYl, rfl⟩
      have hz : ∀ φ, subs φ (frs [frQ 3 false, frQ 5 false] ++ Y) = frs [frQ 3 false, frQ 5 false] ++ Y := (Pl.frs _).app hY
      refine ⟨.inl rfl, [.c [.sl (some (3, 0)) 12 2 c, .i .i64 3], .c [.sl none 0 0 0, .i .i64 1], .dead, .c (frs [frQ 3 false, frQ 5 false] ++ Y)], by show [_, _, _, Blk.c (subs _ _)] = _; simp only [hz]; rfl, ?_⟩
      conv => whnf
      refine ACall.frameH [1] [] rfl (args' := [.p (some (0, 0)), (frQ 1 false).av]) (Hc := [.c [.sl none 0 0 0, .i .i64 1]]) rfl rfl (qput_nil (frQ 1 false) (okF 1) 1 (by omega)) ?_
      rintro r H ⟨rfl, hh⟩
      obtain ⟨_, e, Z, he, hZ, hZl, rfl⟩ := hh.resolve_right (fun h0 => h0.1 (by decide))
      have hz2 : ∀ φ, subs φ (frs [frQ 1 false] ++ Z) = frs [frQ 1 false] ++ Z := (Pl.frs _).app hZ
      rw [show (frQ 1 false).chk = 0 from by kernel_rfl]
      refine ⟨.inl rfl, [.c [.sl (some (3, 0)) 12 2 c, .i .i64 3], .c [.sl (some (4, 0)) 12 1 e, .i .i64 1], .dead, .c (frs [frQ 3 false, frQ 5 false] ++ Y), .c (frs [frQ 1 false] ++ Z)], by show [_, _, _, _, Blk.c (subs _ _)] = _; simp only [hz2]; rfl, ?_⟩
      conv => whnf
      refine ACall.frameH [0, 3] [] rfl (args' := [.p (some (0, 0))]) (Hc := [.c [.sl (some (1, 0)) 12 2 c, .i .i64 3], .c (frs [frQ 3 false, frQ 5 false] ++ Y)]) rfl (by show [_, Blk.c (subs _ _)] = _; rw [hz]; rfl) (qall_spec [frQ 3 false, frQ 5 false] 3 c Y hY (by decide)) ?_
      rintro r H ⟨g, hg, rfl, rfl⟩
      refine ⟨.inl rfl, [.c [.sl (some (3, 0)) 12 2 c, .i .i64 3], .c [.sl (some (4, 0)) 12 1 e, .i .i64 1], .dead, .c (frs [frQ 3 false, frQ 5 false] ++ Y), .c (frs [frQ 1 false] ++ Z), .c (frs [frQ 3 false, frQ 5 false])], by show [_, _, _, Blk.c (subs _ _), _, Blk.c (subs _ _)] = _; simp only [hz, subs_frs]; rfl, ?_⟩
      conv => whnf
      refine ACall.frameH [] [5, 6] rfl (args' := [.rs (frs [frQ 3 false, frQ 5 false]) 0 12 2, .rs (frs [frQ 3 false, frQ 5 false]) 0 12 2]) (Hc := []) rfl rfl (same_spec [frQ 3 false, frQ 5 false] [frQ 3 false, frQ 5 false] (by decide)) ?_
      rintro r H ⟨rfl, rfl⟩
      rw [decide_eq_true rfl]
      refine ⟨.inr ⟨rfl, rfl⟩, [.c [.sl (some (3, 0)) 12 2 c, .i .i64 3], .c [.sl (some (4, 0)) 12 1 e, .i .i64 1], .dead, .c (frs [frQ 3 false, frQ 5 false] ++ Y), .c (frs [frQ 1 false] ++ Z), .c (frs [frQ 3 false, frQ 5 false]), .c (frs [frQ 3 false, frQ 5 false])], rfl, ?_⟩
      conv => whnf
      refine ACall.frameH [1, 4] [] rfl (args' := [.p (some (0, 0)), (frQ 0 false).av]) (Hc := [.c [.sl (some (1, 0)) 12 1 e, .i .i64 1], .c (frs [frQ 1 false] ++ Z)]) rfl (by show [_, Blk.c (subs _ _)] = _; rw [hz2]; rfl) (qput_spec [frQ 1 false] (by intro X hX; simp only [List.mem_cons, List.not_mem_nil, or_false] at hX; all_goals (first | (rcases hX with rfl | rfl | rfl <;> exact okF _) | (rcases hX with rfl | rfl <;> exact okF _) | (subst hX; exact okF _))) (frQ 0 false) (okF 0) 1 e Z he hZ hZl (by decide)) ?_
      rw [show putE [frQ 1 false] (frQ 0 false) 1 = 15 from by kernel_rfl]
      rintro r H ⟨rfl, ⟨h0, _⟩ | ⟨_, e, Z, _, _, _, rfl⟩⟩
      · cases h0
      refine ⟨.inl rfl, _, rfl, ?_⟩
      conv => whnf
      exact GhR.sel [] rfl (GhR.of ⟨rfl, rfl⟩)
  · have hz : ∀ φ, subs φ (frs [frQ 3 false, frQ 5 false] ++ Y) = frs [frQ 3 false, frQ 5 false] ++ Y := (Pl.frs _).app hY
    refine ⟨.inl rfl, [.c [.sl (some (3, 0)) 12 2 c, .i .i64 3], .c [.sl none 0 0 0, .i .i64 1], .dead, .c (frs [frQ 3 false, frQ 5 false] ++ Y)], by show [_, _, _, Blk.c (subs _ _)] = _; simp only [hz]; rfl, ?_⟩
    conv => whnf
    refine ACall.frameH [0, 3] [] rfl (args' := [.p (some (0, 0)), (frQ 4 false).av]) (Hc := [.c [.sl (some (1, 0)) 12 2 c, .i .i64 3], .c (frs [frQ 3 false, frQ 5 false] ++ Y)]) rfl (by show [_, Blk.c (subs _ _)] = _; rw [hz]; rfl) (qput_ok [frQ 3 false, frQ 5 false] (frQ 4 false) [frQ 3 false, frQ 4 false, frQ 5 false] (by intro X hX; simp only [List.mem_cons, List.not_mem_nil, or_false] at hX; all_goals (first | (rcases hX with rfl | rfl | rfl <;> exact okF _) | (rcases hX with rfl | rfl <;> exact okF _) | (subst hX; exact okF _))) (okF 4) 3 c Y hc hY hYl (by kernel_rfl) (by kernel_rfl)) ?_
    clear hz
    rintro r H ⟨rfl, ⟨c, Y, hc, hY, hYl, rfl⟩ | ⟨c, Y, hc, hY, hYl, rfl⟩⟩
    · have hz : ∀ φ, subs φ (frs [frQ 3 false, frQ 4 false, frQ 5 false] ++ Y) = frs [frQ 3 false, frQ 4 false, frQ 5 false] ++ Y := (Pl.frs _).app hY
      refine ⟨.inl rfl, [.c [.sl (some (3, 0)) 12 3 c, .i .i64 3], .c [.sl none 0 0 0, .i .i64 1], .dead, .c (frs [frQ 3 false, frQ 4 false, frQ 5 false] ++ Y)], by show [_, _, _, Blk.c (subs _ _)] = _; simp only [hz]; rfl, ?_⟩
      conv => whnf
      refine ACall.frameH [0, 3] [] rfl (args' := [.p (some (0, 0)), (frQ 4 false).av]) (Hc := [.c [.sl (some (1, 0)) 12 3 c, .i .i64 3], .c (frs [frQ 3 false, frQ 4 false, frQ 5 false] ++ Y)]) rfl (by show [_, Blk.c (subs _ _)] = _; rw [hz]; rfl) (qdrop_ok [frQ 3 false, frQ 4 false, frQ 5 false] (frQ 4 false) [frQ 3 false, frQ 5 false] 3 c Y hc hY hYl (by decide) (by kernel_rfl)) ?_
      clear hz
      rintro r H ⟨rfl, c, Y, hc, hY, hYl, rfl⟩
      have hz : ∀ φ, subs φ (frs [frQ 3 false, frQ 5 false] ++ Y) = frs [frQ 3 false, frQ 5 false] ++ Y := (Pl.frs _).app hY
      refine ⟨.inl rfl, [.c [.sl (some (3, 0)) 12 2 c, .i .i64 3], .c [.sl none 0 0 0, .i .i64 1], .dead, .c (frs [frQ 3 false, frQ 5 false] ++ Y)], by show [_, _, _, Blk.c (subs _ _)] = _; simp only [hz]; rfl, ?_⟩
      conv => whnf
      refine ACall.frameH [1] [] rfl (args' := [.p (some (0, 0)), (frQ 1 false).av]) (Hc := [.c [.sl none 0 0 0, .i .i64 1]]) rfl rfl (qput_nil (frQ 1 false) (okF 1) 1 (by omega)) ?_
      rintro r H ⟨rfl, hh⟩
      obtain ⟨_, e, Z, he, hZ, hZl, rfl⟩ := hh.resolve_right (fun h0 => h0.1 (by decide))
      have hz2 : ∀ φ, subs φ (frs [frQ 1 false] ++ Z) = frs [frQ 1 false] ++ Z := (Pl.frs _).app hZ
      rw [show (frQ 1 false).chk = 0 from by kernel_rfl]
      refine ⟨.inl rfl, [.c [.sl (some (3, 0)) 12 2 c, .i .i64 3], .c [.sl (some (4, 0)) 12 1 e, .i .i64 1], .dead, .c (frs [frQ 3 false, frQ 5 false] ++ Y), .c (frs [frQ 1 false] ++ Z)], by show [_, _, _, _, Blk.c (subs _ _)] = _; simp only [hz2]; rfl, ?_⟩
      conv => whnf
      refine ACall.frameH [0, 3] [] rfl (args' := [.p (some (0, 0))]) (Hc := [.c [.sl (some (1, 0)) 12 2 c, .i .i64 3], .c (frs [frQ 3 false, frQ 5 false] ++ Y)]) rfl (by show [_, Blk.c (subs _ _)] = _; rw [hz]; rfl) (qall_spec [frQ 3 false, frQ 5 false] 3 c Y hY (by decide)) ?_
      rintro r H ⟨g, hg, rfl, rfl⟩
      refine ⟨.inl rfl, [.c [.sl (some (3, 0)) 12 2 c, .i .i64 3], .c [.sl (some (4, 0)) 12 1 e, .i .i64 1], .dead, .c (frs [frQ 3 false, frQ 5 false] ++ Y), .c (frs [frQ 1 false] ++ Z), .c (frs [frQ 3 false, frQ 5 false])], by show [_, _, _, Blk.c (subs _ _), _, Blk.c (subs _ _)] = _; simp only [hz, subs_frs]; rfl, ?_⟩
      conv => whnf
      refine ACall.frameH [] [5, 6] rfl (args' := [.rs (frs [frQ 3 false, frQ 5 false]) 0 12 2, .rs (frs [frQ 3 false, frQ 5 false]) 0 12 2]) (Hc := []) rfl rfl (same_spec [frQ 3 false, frQ 5 false] [frQ 3 false, frQ 5 false] (by decide)) ?_
      rintro r H ⟨rfl, rfl⟩
      rw [decide_eq_true rfl]
      refine ⟨.inr ⟨rfl, rfl⟩, [.c [.sl (some (3, 0)) 12 2 c, .i .i64 3], .c [.sl (some (4, 0)) 12 1 e, .i .i64 1], .dead, .c (frs [frQ 3 false, frQ 5 false] ++ Y), .c (frs [frQ 1 false] ++ Z), .c (frs [frQ 3 false, frQ 5 false]), .c (frs [frQ 3 false, frQ 5 false])], rfl, ?_⟩
      conv => whnf
      refine ACall.frameH [1, 4] [] rfl (args' := [.p (some (0, 0)), (frQ 0 false).av]) (Hc := [.c [.sl (some (1, 0)) 12 1 e, .i .i64 1], .c (frs [frQ 1 false] ++ Z)]) rfl (by show [_, Blk.c (subs _ _)] = _; rw [hz2]; rfl) (qput_spec [frQ 1 false] (by intro X hX; simp only [List.mem_cons, List.not_mem_nil, or_false] at hX; all_goals (first | (rcases hX with rfl | rfl | rfl <;> exact okF _) | (rcases hX with rfl | rfl <;> exact okF _) | (subst hX; exact okF _))) (frQ 0 false) (okF 0) 1 e Z he hZ hZl (by decide)) ?_
      rw [show putE [frQ 1 false] (frQ 0 false) 1 = 15 from by kernel_rfl]
      rintro r H ⟨rfl, ⟨h0, _⟩ | ⟨_, e, Z, _, _, _, rfl⟩⟩
      · cases h0
      refine ⟨.inl rfl, _, rfl, ?_⟩
      conv => whnf
      exact GhR.sel [] rfl (GhR.of ⟨rfl, rfl⟩)
    · have hz : ∀ φ, subs φ (frs [frQ 3 false, frQ 4 false, frQ 5 false] ++ Y) = frs [frQ 3 false, frQ 4 false, frQ 5 false] ++ Y := (Pl.frs _).app hY
      refine ⟨.inl rfl, [.c [.sl (some (4, 0)) 12 3 c, .i .i64 3], .c [.sl none 0 0 0, .i .i64 1], .dead, .dead, .c (frs [frQ 3 false, frQ 4 false, frQ 5 false] ++ Y)], by show [_, _, _, _, Blk.c (subs _ _)] = _; simp only [hz]; rfl, ?_⟩
      conv => whnf
      refine ACall.frameH [0, 4] [] rfl (args' := [.p (some (0, 0)), (frQ 4 false).av]) (Hc := [.c [.sl (some (1, 0)) 12 3 c, .i .i64 3], .c (frs [frQ 3 false, frQ 4 false, frQ 5 false] ++ Y)]) rfl (by show [_, Blk.c (subs _ _)] = _; rw [hz]; rfl) (qdrop_ok [frQ 3 false, frQ 4 false, frQ 5 false] (frQ 4 false) [frQ 3 false, frQ 5 false] 3 c Y hc hY hYl (by decide) (by kernel_rfl)) ?_
      clear hz
      rintro r H ⟨rfl, c, Y, hc, hY, hYl, rfl⟩
      have hz : ∀ φ, subs φ (frs [frQ 3 false, frQ 5 false] ++ Y) = frs [frQ 3 false, frQ 5 false] ++ Y := (Pl.frs _).app hY
      refine ⟨.inl rfl, [.c [.sl (some (4, 0)) 12 2 c, .i .i64 3], .c [.sl none 0 0 0, .i .i64 1], .dead, .dead, .c (frs [frQ 3 false, frQ 5 false] ++ Y)], by show [_, _, _, _, Blk.c (subs _ _)] = _; simp only [hz]; rfl, ?_⟩
      conv => whnf
      refine ACall.frameH [1] [] rfl (args' := [.p (some (0, 0)), (frQ 1 false).av]) (Hc := [.c [.sl none 0 0 0, .i .i64 1]]) rfl rfl (qput_nil (frQ 1 false) (okF 1) 1 (by omega)) ?_
      rintro r H ⟨rfl, hh⟩
      obtain ⟨_, e, Z, he, hZ, hZl, rfl⟩ := hh.resolve_right (fun h0 => h0.1 (by decide))
      have hz2 : ∀ φ, subs φ (frs [frQ 1 false] ++ Z) = frs [frQ 1 false] ++ Z := (Pl.frs _).app hZ
      rw [show (frQ 1 false).chk = 0 from by kernel_rfl]
      refine ⟨.inl rfl, [.c [.sl (some (4, 0)) 12 2 c, .i .i64 3], .c [.sl (some (5, 0)) 12 1 e, .i .i64 1], .dead, .dead, .c (frs [frQ 3 false, frQ 5 false] ++ Y), .c (frs [frQ 1 false] ++ Z)], by show [_, _, _, _, _, Blk.c (subs _ _)] = _; simp only [hz2]; rfl, ?_⟩
      conv => whnf
      refine ACall.frameH [0, 4] [] rfl (args' := [.p (some (0, 0))]) (Hc := [.c [.sl (some (1, 0)) 12 2 c, .i .i64 3], .c (frs [frQ 3 false, frQ 5 false] ++ Y)]) rfl (by show [_, Blk.c (subs _ _)] = _; rw [hz]; rfl) (qall_spec [frQ 3 false, frQ 5 false] 3 c Y hY (by decide)) ?_
      rintro r H ⟨g, hg, rfl, rfl⟩
      refine ⟨.inl rfl, [.c [.sl (some (4, 0)) 12 2 c, .i .i64 3], .c [.sl (some (5, 0)) 12 1 e, .i .i64 1], .dead, .dead, .c (frs [frQ 3 false, frQ 5 false] ++ Y), .c (frs [frQ 1 false] ++ Z), .c (frs [frQ 3 false, frQ 5 false])], by show [_, _, _, _, Blk.c (subs _ _), _, Blk.c (subs _ _)] = _; simp only [hz, subs_frs]; rfl, ?_⟩
      conv => whnf
      refine ACall.frameH [] [6, 7] rfl (args' := [.rs (frs [frQ 3 false, frQ 5 false]) 0 12 2, .rs (frs [frQ 3 false, frQ 5 false]) 0 12 2]) (Hc := []) rfl rfl (same_spec [frQ 3 false, frQ 5 false] [frQ 3 false, frQ 5 false] (by decide)) ?_
      rintro r H ⟨rfl, rfl⟩
      rw [decide_eq_true rfl]
      refine ⟨.inr ⟨rfl, rfl⟩, [.c [.sl (some (4, 0)) 12 2 c, .i .i64 3], .c [.sl (some (5, 0)) 12 1 e, .i .i64 1], .dead, .dead, .c (frs [frQ 3 false, frQ 5 false] ++ Y), .c (frs [frQ 1 false] ++ Z), .c (frs [frQ 3 false, frQ 5 false]), .c (frs [frQ 3 false, frQ 5 false])], rfl, ?_⟩
      conv => whnf
      refine ACall.frameH [1, 5] [] rfl (args' := [.p (some (0, 0)), (frQ 0 false).av]) (Hc := [.c [.sl (some (1, 0)) 12 1 e, .i .i64 1], .c (frs [frQ 1 false] ++ Z)]) rfl (by show [_, Blk.c (subs _ _)] = _; rw [hz2]; rfl) (qput_spec [frQ 1 false] (by intro X hX; simp only [List.mem_cons, List.not_mem_nil, or_false] at hX; all_goals (first | (rcases hX with rfl | rfl | rfl <;> exact okF _) | (rcases hX with rfl | rfl <;> exact okF _) | (subst hX; exact okF _))) (frQ 0 false) (okF 0) 1 e Z he hZ hZl (by decide)) ?_
      rw [show putE [frQ 1 false] (frQ 0 false) 1 = 15 from by kernel_rfl]
      rintro r H ⟨rfl, ⟨h0, _⟩ | ⟨_, e, Z, _, _, _, rfl⟩⟩
      · cases h0
      refine ⟨.inl rfl, _, rfl, ?_⟩
      conv => whnf
      exact GhR.sel [] rfl (GhR.of ⟨rfl, rfl⟩)
end Go.AK
namespace Go.AK
open Go Go.RowKit Go.Proofs
set_option linter.unusedVariables false
set_option maxRecDepth 100000
theorem okT_acts : ∀ fuel, okT T fuel 22 = true
  | 0 => rfl
  | 1 => rfl
  | 2 => rfl
  | 3 => rfl
  | 4 => rfl
  | n + 5 => rfl
theorem WT_act : ∀ {fuel : Nat} {xs : List AV}, WT T fuel 33 xs → ∃ a : Bool × Fr, xs = .b a.1 :: a.2.cells ∧ a.2.ok
  | 0, _, h => h.elim
  | 1, xs, h => by
    obtain ⟨ys, zs, _, h1, _⟩ := (show WTs (WT T 0) [4, 25] xs from h)
    exact h1.elim
  | n + 2, xs, h => by
    obtain ⟨y0, z0, rfl, h0, h⟩ := (show WTs (WT T (n + 1)) [4, 25] xs from h)
    obtain ⟨y1, z1, rfl, h1, h⟩ := h
    obtain rfl := (show z1 = [] from h)
    obtain ⟨d, rfl⟩ := (show ∃ b, y0 = [.b b] from h0)
    obtain ⟨F, rfl, hF⟩ := WT_frame h1
    exact ⟨(d, F), rfl, hF⟩
theorem WTs_acts {n : Nat} : ∀ (m : Nat) (cs : List AV), WTs (WT T n) (List.replicate m 33) cs → ∃ L : List (Bool × Fr), cs = acs L ∧ L.length = m ∧ ∀ a ∈ L, a.2.ok
  | 0, cs, hc => ⟨[], (show cs = [] from hc), rfl, fun x hx => by cases hx⟩
  | m + 1, cs, hc => by
    rw [List.replicate_succ] at hc
    obtain ⟨ys, zs, rfl, h1, h2⟩ := hc
    obtain ⟨a, rfl, ha⟩ := WT_act h1
    obtain ⟨L, rfl, hl, hL⟩ := WTs_acts m zs h2
    refine ⟨a :: L, rfl, by simp [hl], fun y hy => ?_⟩
    rcases List.mem_cons.1 hy with rfl | hy
    · exact ha
    · exact hL y hy
theorem WT_acts : ∀ {fuel : Nat} {xs : List AV}, WT T fuel 22 xs → ∃ l : List (Bool × Fr), xs = [.rs (acs l) 0 13 l.length] ∧ l.length ≤ maxLen ∧ ∀ a ∈ l, a.2.ok
  | 0, _, h => h.elim
  | n + 1, xs, h => by
    obtain ⟨m, cs, hx, hm, hc⟩ := (show ∃ m cs, xs = [AV.rs cs 0 13 m] ∧ m ≤ maxLen ∧ WTs (WT T n) (List.replicate m 33) cs from h)
    obtain ⟨L, hL, hl, hw⟩ := WTs_acts m cs hc
    subst hL
    exact ⟨L, by rw [hx, hl], by omega, hw⟩
end Go.AK
namespace Go.AK
open Go Go.RowKit Go.Proofs
set_option linter.unusedVariables false
theorem fnd_lt {l : List Fr} {F : Fr} (h : F ∈ l) : fndF l F < l.length := by
  unfold fndF
  exact List.findIdx_lt_length_of_exists ⟨F, h, by simp⟩
theorem fnd_at {l : List Fr} {F : Fr} (h : fndF l F < l.length) : l[fndF l F] = F := by
  have := List.findIdx_getElem (w := h)
  simp only [decide_eq_true_eq] at this
  exact this.symm
theorem drop_erase (l : List Fr) (F : Fr) : dropL l F = l.erase F := by
  unfold dropL fndF
  induction l with
  | nil => rfl
  | cons G l ih =>
    rw [List.findIdx_cons, List.erase_cons]
    by_cases e : G = F
    · subst e; simp
    · have e2 : ¬ F = G := fun h => e h.symm
      simp [e, e2, ih]
def others (l : List Fr) (F : Fr) : List Fr := l.filter fun G => decide (¬ G = F)
theorem others_app (A B : List Fr) (F : Fr) : others (A ++ B) F = others A F ++ others B F := List.filter_append ..
theorem others_put (l : List Fr) (F : Fr) : others (putL l F) F = others l F := by
  unfold putL insF
  rw [others_app]
  have : others (F :: l.drop (posF l F)) F = others (l.drop (posF l F)) F := by unfold others; simp
  rw [this, ← others_app, List.take_append_drop]
theorem others_drop (l : List Fr) (F : Fr) : others (dropL l F) F = others l F := by
  rw [drop_erase]
  induction l with
  | nil => rfl
  | cons G l ih =>
    rw [List.erase_cons]
    by_cases e : G = F
    · subst e; simp [others]
    · simp only [beq_iff_eq, e, if_false]
      unfold others at ih ⊢
      rw [List.filter_cons, List.filter_cons, ih]
theorem count_put (l : List Fr) (F : Fr) : (putL l F).count F = l.count F + 1 := by
  unfold putL insF
  rw [List.count_append, List.count_cons_self, ← Nat.add_assoc, ← List.count_append, List.take_append_drop]
theorem count_drop {l : List Fr} {F : Fr} : (dropL l F).count F = l.count F - 1 := by
  rw [drop_erase, List.count_erase_self]
theorem others_none {l : List Fr} {F : Fr} (h : l.count F = 0) : others l F = l := by
  unfold others
  refine List.filter_eq_self.2 fun G hG => ?_
  have := List.count_eq_zero.1 h
  simp
  rintro rfl
  exact this hG
theorem drop_sub {l : List Fr} {F G : Fr} (h : G ∈ dropL l F) : G ∈ l := by rw [drop_erase] at h; exact List.mem_of_mem_erase h
theorem put_sub {l : List Fr} {F G : Fr} (h : G ∈ putL l F) : G = F ∨ G ∈ l := by
  unfold putL insF at h
  rcases List.mem_append.1 h with h | h
  · exact .inr (List.mem_of_mem_take h)
  · rcases List.mem_cons.1 h with h | h
    · exact .inl h
    · exact .inr (List.mem_of_mem_drop h)
theorem act_ok {l : List Fr} {a : Bool × Fr} {most : Int} (hl : ∀ F ∈ l, F.ok) (ha : a.2.ok) : ∀ F ∈ actL l most a, F.ok := fun F hF => by
  unfold actL at hF
  split at hF
  · split at hF
    · exact hl F (drop_sub hF)
    · exact hl F hF
  · split at hF
    · rcases put_sub hF with rfl | h
      · exact ha
      · exact hl F h
    · exact hl F hF
theorem act_len {l : List Fr} {a : Bool × Fr} {most : Int} (hl : (l.length : Int) ≤ most) : ((actL l most a).length : Int) ≤ most := by
  unfold actL
  split
  · split
    · have : (dropL l a.2).length ≤ l.length := by rw [drop_erase]; exact List.length_erase_le
      omega
    · exact hl
  · split
    · rename_i h
      unfold putE at h
      split at h
      · split at h
        · omega
        · rw [putL_length]; omega
      · omega
    · exact hl
theorem cut_frs (l : List Fr) (a n : Nat) : List.take (n * 12) (List.drop (0 + a * 12) (frs l)) = frs ((l.drop a).take n) := by
  rw [Nat.zero_add, frs_drop, frs_take]
/-- Where the first one stands, as far as it was looked. -/
def atI (l : List Fr) (f : Fr) (k : Nat) : Int := if f ∈ l.take k then (fndF l f : Nat) else -1
theorem atI_in {l : List Fr} {f : Fr} {k : Nat} (h : f ∈ l.take k) : atI l f k = (fndF l f : Nat) := if_pos h
theorem atI_out {l : List Fr} {f : Fr} {k : Nat} (h : ¬ f ∈ l.take k) : atI l f k = -1 := if_neg h
theorem mem_take_next {l : List Fr} {f : Fr} {k : Nat} (hk : k < l.length) : f ∈ l.take (k + 1) ↔ f ∈ l.take k ∨ l[k] = f := by
  rw [List.take_add_one, List.getElem?_eq_getElem hk, List.mem_append]
  simp [eq_comm]
theorem atI_stay {l : List Fr} {f : Fr} {k : Nat} (h : f ∈ l.take k) : atI l f (k + 1) = atI l f k := by
  have h2 : f ∈ l.take (k + 1) := by rw [List.take_add_one]; exact List.mem_append_left _ h
  rw [atI_in h, atI_in h2]
theorem atI_same {l : List Fr} {f : Fr} {k : Nat} (hk : k < l.length) (e : ¬ l[k] = f) : atI l f (k + 1) = atI l f k := by
  unfold atI
  by_cases h : f ∈ l.take k
  · rw [if_pos h, if_pos ((mem_take_next hk).2 (.inl h))]
  · rw [if_neg h, if_neg (fun h2 => ((mem_take_next hk).1 h2).elim h e)]
theorem atI_new {l : List Fr} {f : Fr} {k : Nat} (hk : k < l.length) (e : l[k] = f) (h : ¬ f ∈ l.take k) : atI l f (k + 1) = (k : Nat) := by
  rw [atI_in ((mem_take_next hk).2 (.inr e))]
  have : fndF l f = k := by
    unfold fndF
    refine (List.findIdx_eq hk).2 ⟨by simp [e], fun j hj => ?_⟩
    have hn : ¬ f = l[j] := fun e2 => h (by
      rw [e2, show l[j] = (l.take k)[j]'(by rw [List.length_take]; omega) from (List.getElem_take ..).symm]
      exact List.getElem_mem _)
    simp [hn]
  rw [this]
theorem count_take_in {l : List Fr} {f : Fr} {k : Nat} (hk : k < l.length) (e : l[k] = f) : (l.take (k + 1)).count f = (l.take k).count f + 1 := by
  rw [List.take_add_one, List.getElem?_eq_getElem hk, List.count_append]
  simp [e]
theorem count_take_out {l : List Fr} {f : Fr} {k : Nat} (hk : k < l.length) (e : ¬ l[k] = f) : (l.take (k + 1)).count f = (l.take k).count f := by
  rw [List.take_add_one, List.getElem?_eq_getElem hk, List.count_append]
  simp [e]
/-- The acts, one behind the other. -/
def actsL (most : Int) : List (Bool × Fr) → List Fr → List Fr
  | [], l => l
  | a :: A, l => actsL most A (actL l most a)
end Go.AK
namespace Go.AK
open Go Go.RowKit Go.Proofs
set_option linter.unusedVariables false
theorem cmpI_neg {a b : Int} : cmpI a b < 0 ↔ a < b := by
  unfold cmpI
  split
  · omega
  · split <;> omega
theorem cmpI_zero' {a b : Int} : cmpI a b = 0 ↔ a = b := by
  unfold cmpI
  split
  · omega
  · split <;> omega
theorem cmpL_cons {a b : Int} {L M : List Int} : cmpL (a :: L) (b :: M) < 0 ↔ a < b ∨ (a = b ∧ cmpL L M < 0) := by
  rw [show cmpL (a :: L) (b :: M) = if cmpI a b = 0 then cmpL L M else cmpI a b from rfl]
  split
  · rename_i h
    have := cmpI_zero'.1 h
    constructor
    · intro h2; exact .inr ⟨this, h2⟩
    · rintro (h2 | ⟨_, h2⟩)
      · omega
      · exact h2
  · rename_i h
    rw [cmpI_neg]
    constructor
    · exact .inl
    · rintro (h2 | ⟨h2, _⟩)
      · exact h2
      · exact absurd (cmpI_zero'.2 h2) h
theorem cmpL_trans : ∀ {L M N : List Int}, cmpL L M < 0 → cmpL M N < 0 → cmpL L N < 0
  | [], [], _, h, _ => by simp [cmpL] at h
  | [], _ :: _, [], _, h => by simp [cmpL] at h
  | [], _ :: _, _ :: _, _, _ => by simp [cmpL]
  | _ :: _, [], _, h, _ => by simp [cmpL] at h
  | _ :: _, _ :: _, [], _, h => by simp [cmpL] at h
  | a :: L, b :: M, c :: N, h, k => by
    rw [cmpL_cons] at h k ⊢
    rcases h with h | ⟨rfl, h⟩ <;> rcases k with k | ⟨rfl, k⟩
    · exact .inl (by omega)
    · exact .inl h
    · exact .inl k
    · exact .inr ⟨rfl, cmpL_trans h k⟩
theorem less_trans {F G H : Fr} (h : F.less G = true) (k : G.less H = true) : F.less H = true := by
  unfold Fr.less frcmp at *
  simp only [Bool.and_eq_true, decide_eq_true_eq] at *
  exact ⟨⟨h.1.1, k.1.2⟩, cmpL_trans h.2 k.2⟩
/-- Of frames in order none comes ahead of the one ahead. -/
def Srt (l : List Fr) : Prop := l.Pairwise fun G H => H.less G = false
theorem Srt.put {l : List Fr} (h : Srt l) (F : Fr) : Srt (putL l F) := by
  unfold Srt putL insF at *
  rw [← List.take_append_drop (posF l F) l] at h
  have h1 := List.pairwise_append.1 h
  refine List.pairwise_append.2 ⟨h1.1, List.pairwise_cons.2 ⟨fun G hG => ?_, h1.2.1⟩, fun G hG K hK => ?_⟩
  · obtain ⟨j, hj, rfl⟩ := List.mem_iff_getElem.1 hG
    rw [List.length_drop] at hj
    have hp : posF l F < l.length := by omega
    have hf : F.less l[posF l F] = true := List.findIdx_getElem (w := hp)
    cases hc : (l.drop (posF l F))[j].less F with
    | false => rfl
    | true =>
      exfalso
      have ht := less_trans hc hf
      by_cases e : j = 0
      · subst e
        have e0 : (l.drop (posF l F))[0] = l[posF l F] := by rw [List.getElem_drop]; rfl
        rw [e0] at ht
        have hself : ∀ X : Fr, X.less X = false := fun X => by
          cases hx : X.less X with
          | false => rfl
          | true =>
            unfold Fr.less frcmp at hx
            simp only [Bool.and_eq_true, decide_eq_true_eq] at hx
            have : ∀ L : List Int, ¬ cmpL L L < 0 := by
              intro L
              induction L with
              | nil => simp [cmpL]
              | cons a L ih => rw [cmpL_cons]; rintro (h | ⟨_, h⟩); omega; exact ih h
            exact absurd hx.2 (this _)
        rw [hself] at ht; cases ht
      · have := List.pairwise_iff_getElem.1 h1.2.1 0 j (by rw [List.length_drop]; omega) (by rw [List.length_drop]; omega) (by omega)
        have e0 : (l.drop (posF l F))[0]'(by rw [List.length_drop]; omega) = l[posF l F] := by rw [List.getElem_drop]; rfl
        rw [e0, ht] at this; cases this
  · rcases List.mem_cons.1 hK with rfl | hK
    · obtain ⟨j, hj, rfl⟩ := List.mem_iff_getElem.1 hG
      rw [List.length_take] at hj
      rw [List.getElem_take]
      have := List.not_of_lt_findIdx (p := fun G => K.less G) (xs := l) (i := j) (by unfold posF at hj; omega)
      simpa using this
    · exact h1.2.2 G hG K hK
theorem Srt.drop {l : List Fr} (h : Srt l) (F : Fr) : Srt (dropL l F) := by
  rw [drop_erase]
  exact List.Pairwise.sublist List.erase_sublist h
theorem Srt.act {l : List Fr} {a : Bool × Fr} {most : Int} (h : Srt l) : Srt (actL l most a) := by
  unfold actL
  split
  · split
    · exact h.drop _
    · exact h
  · split
    · exact h.put _
    · exact h
theorem drop_head (F : Fr) (l : List Fr) : dropL (F :: l) F = l := by rw [drop_erase]; simp
end Go.AK
namespace Go.AK
open Go Go.RowKit Go.Proofs
set_option linter.unusedVariables false
theorem less_irr (X : Fr) : X.less X = false := by
  cases hx : X.less X with
  | false => rfl
  | true =>
    unfold Fr.less frcmp at hx
    simp only [Bool.and_eq_true, decide_eq_true_eq] at hx
    have : ∀ L : List Int, ¬ cmpL L L < 0 := by
      intro L
      induction L with
      | nil => simp [cmpL]
      | cons a L ih => rw [cmpL_cons]; rintro (h | ⟨_, h⟩); omega; exact ih h
    exact absurd hx.2 (this _)
theorem cmpI_flip (a b : Int) : cmpI a b = - cmpI b a := by
  unfold cmpI
  split <;> split <;> (try split) <;> omega
theorem cmpL_flip : ∀ L M : List Int, cmpL L M = - cmpL M L
  | [], [] => rfl
  | [], _ :: _ => rfl
  | _ :: _, [] => rfl
  | a :: L, b :: M => by
    unfold cmpL
    rw [cmpI_flip a b]
    by_cases h : cmpI b a = 0
    · rw [if_pos (by omega), if_pos h, cmpL_flip L M]
    · rw [if_neg (by omega), if_neg h]
theorem cmpL_zero' : ∀ {L M : List Int}, cmpL L M = 0 → L = M
  | [], [], _ => rfl
  | [], _ :: _, h => by simp [cmpL] at h
  | _ :: _, [], h => by simp [cmpL] at h
  | a :: L, b :: M, h => by
    unfold cmpL at h
    split at h
    · rename_i e
      rw [cmpI_zero'.1 e, cmpL_zero' h]
    · rename_i e; exact absurd h e
theorem less_row {F G : Fr} (hF : F.may) (hG : G.may) : F.less G = decide (cmpL F.row G.row < 0) := by
  unfold Fr.less frcmp Fr.rw
  rw [if_pos hF, if_pos hG, decide_eq_true ⟨hF, hG⟩, Bool.true_and]
theorem less_le {G X Z : Fr} (hG : G.may) (hX : X.may) (hZ : Z.may) (h : G.less X = true) (k : Z.less X = false) : G.less Z = true := by
  rw [less_row hG hX, decide_eq_true_eq] at h
  rw [less_row hZ hX, decide_eq_false_iff_not] at k
  rw [less_row hG hZ, decide_eq_true_eq]
  rw [cmpL_flip] at k
  by_cases e : cmpL X.row Z.row = 0
  · rw [← cmpL_zero' e]; exact h
  · exact cmpL_trans h (by omega)
theorem putL_nil (F : Fr) : putL [] F = [F] := rfl
theorem putL_cons_lt {F G : Fr} {l : List Fr} (h : F.less G = true) : putL (G :: l) F = F :: G :: l := by
  unfold putL insF posF
  rw [List.findIdx_cons, h]
  rfl
theorem putL_cons_ge {F G : Fr} {l : List Fr} (h : F.less G = false) : putL (G :: l) F = G :: putL l F := by
  unfold putL insF posF
  rw [List.findIdx_cons, h]
  rfl
/-- Frames in order, each behind those that came before it. -/
def srt (R : List Fr) : List Fr := R.foldl putL []
theorem srt_snoc (R : List Fr) (F : Fr) : srt (R ++ [F]) = putL (srt R) F := by unfold srt; rw [List.foldl_append]; rfl
theorem putL_perm (l : List Fr) (F : Fr) : (putL l F).Perm (F :: l) := by
  unfold putL insF
  refine List.perm_middle.trans ?_
  rw [List.take_append_drop]
theorem srt_perm (R : List Fr) : (srt R).Perm R := by
  rw [← List.reverse_reverse R]
  induction R.reverse with
  | nil => exact .refl _
  | cons F L ih =>
    rw [List.reverse_cons, srt_snoc]
    refine (putL_perm _ _).trans ((ih.cons F).trans ?_)
    exact List.perm_append_comm (l₁ := [F])
theorem srt_length (R : List Fr) : (srt R).length = R.length := (srt_perm R).length_eq
theorem srt_srt (R : List Fr) : Srt (srt R) := by
  rw [← List.reverse_reverse R]
  induction R.reverse with
  | nil => exact List.Pairwise.nil
  | cons F L ih => rw [List.reverse_cons, srt_snoc]; exact ih.put F
/-- One less, put in or not: in order. -/
theorem erase_put {F G : Fr} (hG : G.may) : ∀ {l : List Fr}, (∀ K ∈ l, K.may) → Srt l → F ∈ l → (putL l G).erase F = putL (l.erase F) G
  | [], _, _, h => by cases h
  | X :: l, hmy, hs, h => by
    have hs2 := List.pairwise_cons.1 hs
    by_cases e : X = F
    · subst e
      cases hg : G.less X with
      | true =>
        rw [putL_cons_lt hg, List.erase_cons_head]
        by_cases eg : G = X
        · subst eg; rw [less_irr] at hg; cases hg
        · rw [List.erase_cons_tail (by simpa using eg), List.erase_cons_head]
          cases l with
          | nil => rfl
          | cons Z l =>
            have hz := hs2.1 Z (by simp)
            have : G.less Z = true := less_le hG (hmy X (by simp)) (hmy Z (by simp)) hg hz
            rw [putL_cons_lt this]
      | false =>
        rw [putL_cons_ge hg, List.erase_cons_head, List.erase_cons_head]
    · have hm : F ∈ l := (List.mem_cons.1 h).resolve_left (fun h => e h.symm)
      cases hg : G.less X with
      | true =>
        rw [putL_cons_lt hg]
        by_cases eg : G = F
        · subst eg
          have hz := hs2.1 G hm
          rw [hg] at hz; cases hz
        · rw [List.erase_cons_tail (by simpa using eg), List.erase_cons_tail (by simpa using e), putL_cons_lt hg]
      | false =>
        rw [putL_cons_ge hg, List.erase_cons_tail (by simpa using e), List.erase_cons_tail (by simpa using e), putL_cons_ge hg, erase_put hG (fun K hK => hmy K (by simp [hK])) hs2.2 hm]
theorem put_erase {F : Fr} : ∀ {l : List Fr}, ¬ F ∈ l → (putL l F).erase F = l
  | [], _ => by rw [putL_nil]; simp
  | X :: l, h => by
    have hX : ¬ X = F := fun e => h (by simp [e])
    cases hg : F.less X with
    | true => rw [putL_cons_lt hg]; simp
    | false => rw [putL_cons_ge hg, List.erase_cons_tail (by simpa using hX), put_erase (fun hm => h (by simp [hm]))]
theorem srt_mem {R : List Fr} {F : Fr} : F ∈ srt R ↔ F ∈ R := (srt_perm R).mem_iff
theorem srt_erase {F : Fr} (R : List Fr) (hm : ∀ K ∈ R, K.may) : (srt R).erase F = srt (R.erase F) := by
  rw [← List.reverse_reverse R] at hm ⊢
  revert hm
  induction R.reverse with
  | nil => intro _; rfl
  | cons G L ih =>
    intro hm
    rw [List.reverse_cons] at hm ⊢
    have hmL : ∀ K ∈ L.reverse, K.may := fun K hK => hm K (List.mem_append_left _ hK)
    have hG : G.may := hm G (by simp)
    rw [srt_snoc]
    by_cases hF : F ∈ L.reverse
    · rw [erase_put hG (fun K hK => hmL K (srt_mem.1 hK)) (srt_srt _) (srt_mem.2 hF), ih hmL, List.erase_append_left _ hF, srt_snoc]
    · rw [List.erase_append_right _ hF]
      by_cases e : G = F
      · subst e
        rw [put_erase (fun h => hF (srt_mem.1 h))]
        simp
      · have hnm : ¬ F ∈ putL (srt L.reverse) G := fun h => by
          rcases put_sub h with h | h
          · exact e h.symm
          · exact hF (srt_mem.1 h)
        rw [List.erase_of_not_mem hnm, List.erase_cons_tail (by simpa using e)]
        simp [srt_snoc]
/-- The first one that none comes ahead of stands first. -/
theorem srt_min : ∀ (R : List Fr) (k : Nat) (hk : k < R.length), (∀ K ∈ R, K.may) → (∀ j (h : j < R.length), R[j].less R[k] = false) → (∀ j (h : j < R.length), j < k → R[k].less R[j] = true) → srt R = R[k] :: srt (R.eraseIdx k) := by
  intro R
  rw [← List.reverse_reverse R]
  induction R.reverse with
  | nil => intro k hk; simp at hk
  | cons G L ih =>
    rw [List.reverse_cons]
    generalize L.reverse = M at ih
    intro k hk hm h1 h2
    rw [srt_snoc]
    rw [List.length_append, List.length_singleton] at hk
    have hmM : ∀ K ∈ M, K.may := fun K hK => hm K (List.mem_append_left _ hK)
    by_cases e : k < M.length
    · have ek : (M ++ [G])[k]'(by rw [List.length_append, List.length_singleton]; omega) = M[k] := List.getElem_append_left e
      have g1 : ∀ j (h : j < M.length), M[j].less M[k] = false := fun j h => by
        have := h1 j (by rw [List.length_append, List.length_singleton]; omega)
        rw [ek, List.getElem_append_left h] at this; exact this
      have g2 : ∀ j (h : j < M.length), j < k → M[k].less M[j] = true := fun j h hj => by
        have := h2 j (by rw [List.length_append, List.length_singleton]; omega) hj
        rw [ek, List.getElem_append_left h] at this; exact this
      have gG : G.less M[k] = false := by
        have := h1 M.length (by rw [List.length_append, List.length_singleton]; omega)
        rw [ek, List.getElem_append_right (Nat.le_refl _)] at this
        simpa using this
      rw [ih k e hmM g1 g2, putL_cons_ge gG, ek, List.eraseIdx_append_of_lt_length e, srt_snoc]
    · have ek : k = M.length := by omega
      subst ek
      have eG : (M ++ [G])[M.length]'(by rw [List.length_append, List.length_singleton]; omega) = G := by rw [List.getElem_append_right (Nat.le_refl _)]; simp
      have g2 : ∀ K ∈ M, G.less K = true := fun K hK => by
        obtain ⟨j, hj, rfl⟩ := List.mem_iff_getElem.1 hK
        have := h2 j (by rw [List.length_append, List.length_singleton]; omega) hj
        rw [eG, List.getElem_append_left hj] at this; exact this
      have hp : putL (srt M) G = G :: srt M := by
        cases hs : srt M with
        | nil => rfl
        | cons X T =>
          have : X ∈ M := srt_mem.1 (by rw [hs]; simp)
          rw [putL_cons_lt (g2 X this)]
      rw [hp, eG, List.eraseIdx_append_of_length_le (Nat.le_refl _)]
      simp
end Go.AK
namespace Go.AK
open Go Go.RowKit Go.Proofs
set_option linter.unusedVariables false
set_option maxRecDepth 100000
def frD : Fr := ⟨0, false, false, 0, 0, 0, 0, 0, 0, 0, 0, 0⟩
def at_ (l : List Fr) (i : Int) : Fr := l.getD i.toNat frD
def ordI (l : List Fr) (i k : Int) : Int := if (at_ l i).less (at_ l k) = true then -1 else if (at_ l k).less (at_ l i) = true then 1 else 0
theorem at_get (l : List Fr) (i : Nat) (h : i < l.length) : at_ l i = l[i] := by simp [at_, h]
theorem orderFn_spec (l : List Fr) (hok : ∀ F ∈ l, F.ok) (i k : Nat) (hi : i < l.length) (hk : k < l.length) :
    ACall Try.prog 57 [.i .i64 i, .i .i64 k, .p (some (0, 0))] [.c [.rs (frs l) 0 12 l.length]] fun r H => r = .ret (.i .i64 (ordI l i k)) ∧ H = [.c [.rs (frs l) 0 12 l.length]] := by
  refine ACall.gh ?_
  refine ACall.enter tok false Try.func57 rfl rfl rfl (AW_sound (ip := false) tok _ _ _ _ ?_)
  conv => whnf
  unfold ordI
  rw [at_get l i hi, at_get l k hk]
  refine ADraw.of tok mixed false [0, 1, 2, 3, 4, 5, 6, 7] [8, 9] (by kernel_rfl) (fun _ _ _ _ h => h) ?_
  conv => whnf
  refine ⟨⟨by omega, by omega⟩, ?_⟩
  conv => whnf
  refine aget_fr (k := i) (by omega) hi ?_
  conv => whnf
  refine ⟨⟨by omega, by omega⟩, ?_⟩
  conv => whnf
  refine aget_fr (k := k) (by omega) hk ?_
  conv => whnf
  refine ACall.frame [] [] rfl (args' := [l[i].av, l[k].av]) (Hc := []) rfl rfl (less_spec l[i] l[k] (hok _ (List.getElem_mem _)) (hok _ (List.getElem_mem _))) ?_
  rintro r H ⟨rfl, rfl⟩
  refine ⟨.inl rfl, ?_⟩
  conv => whnf
  cases he : l[i].less l[k]
  · conv => whnf
    refine ADraw.of tok mixed false [0, 1, 2, 3, 4, 5, 6, 7] [8, 9] (by kernel_rfl) (fun _ _ _ _ h => h) ?_
    conv => whnf
    refine ⟨⟨by omega, by omega⟩, ?_⟩
    conv => whnf
    refine aget_fr (k := k) (by omega) hk ?_
    conv => whnf
    refine ⟨⟨by omega, by omega⟩, ?_⟩
    conv => whnf
    refine aget_fr (k := i) (by omega) hi ?_
    conv => whnf
    refine ACall.frame [] [] rfl (args' := [l[k].av, l[i].av]) (Hc := []) rfl rfl (less_spec l[k] l[i] (hok _ (List.getElem_mem _)) (hok _ (List.getElem_mem _))) ?_
    rintro r H ⟨rfl, rfl⟩
    refine ⟨.inl rfl, ?_⟩
    conv => whnf
    cases he2 : l[k].less l[i]
    · conv => whnf
      exact GhR.of ⟨rfl, rfl⟩
    · conv => whnf
      exact GhR.of ⟨rfl, rfl⟩
  · conv => whnf
    exact GhR.of ⟨rfl, rfl⟩
end Go.AK
namespace Go.AK
open Go Go.RowKit Go.Proofs
set_option linter.unusedVariables false
set_option maxRecDepth 100000
def swapAt (L : List Int) (j : Nat) : List Int := (L.set (j + 1) (L.getD j 0)).set j (L.getD (j + 1) 0)
/-- An element goes ahead, as long as it comes ahead of the one before it. -/
def goA (cf : Int → Int → Int) : Nat → List Int → List Int
  | 0, L => L
  | j + 1, L => if cf (L.getD (j + 1) 0) (L.getD j 0) < 0 then goA cf j (swapAt L j) else L
def insFrom (cf : Int → Int → Int) : Nat → Nat → List Int → List Int
  | 0, i, L => L
  | n + 1, i, L => insFrom cf n (i + 1) (goA cf i L)
theorem swapAt_length (L : List Int) (j : Nat) : (swapAt L j).length = L.length := by simp [swapAt]
theorem goA_length (cf : Int → Int → Int) : ∀ (j : Nat) (L : List Int), (goA cf j L).length = L.length
  | 0, L => rfl
  | j + 1, L => by
    unfold goA
    split
    · rw [goA_length cf j, swapAt_length]
    · rfl
/-- All are places of a row. -/
def Plc (n : Nat) (L : List Int) : Prop := ∀ x ∈ L, 0 ≤ x ∧ x < n
theorem Plc.swapAt {n : Nat} {L : List Int} (h : Plc n L) (j : Nat) (hj : j + 1 < L.length) : Plc n (swapAt L j) := by
  have g : ∀ i, i < L.length → 0 ≤ L.getD i 0 ∧ L.getD i 0 < n := fun i hi => by
    rw [List.getD_eq_getElem?_getD, List.getElem?_eq_getElem hi]; exact h _ (List.getElem_mem hi)
  intro x hx
  unfold AK.swapAt at hx
  rcases List.mem_or_eq_of_mem_set hx with h1 | h1
  · rcases List.mem_or_eq_of_mem_set h1 with h2 | h2
    · exact h x h2
    · rw [h2]; exact g j (by omega)
  · rw [h1]; exact g _ hj
theorem Plc.goA {n : Nat} (cf : Int → Int → Int) : ∀ (j : Nat) {L : List Int}, Plc n L → j < L.length → Plc n (goA cf j L)
  | 0, L, h, hj => h
  | j + 1, L, h, hj => by
    unfold AK.goA
    split
    · exact Plc.goA cf j (h.swapAt j hj) (by rw [swapAt_length]; omega)
    · exact h
set_option maxHeartbeats 2000000 in
theorem ins_spec (l : List Fr) (hok : ∀ F ∈ l, F.ok) (L : List Int) (hL : L.length < 1000000000) (hp : Plc l.length L) (c : Nat) :
    ACall Try.prog 76 [.sl (some (1, 0)) 1 L.length c, .i .i64 0, .i .i64 L.length, .fn (.func 57) [] [.p (some (0, 0))]] [.c [.rs (frs l) 0 12 l.length], .c (ints L)]
      fun r H => r = .ret (.tup []) ∧ H = [.c [.rs (frs l) 0 12 l.length], .c (ints (insFrom (ordI l) (L.length - 1) 1 L))] := by
  refine ACall.gh ?_
  refine ACall.enter tok false Try.func76 rfl rfl rfl (AW_sound (ip := false) tok _ _ _ _ ?_)
  conv => whnf
  generalize hB : AV.rs (frs l) 0 12 l.length = B
  have hsub : ∀ φ, sub φ B = B := fun φ => by subst hB; simp only [sub, subs_frs]
  have hcall : ∀ i k : Nat, i < l.length → k < l.length → ACall Try.prog 57 [.i .i64 i, .i .i64 k, .p (some (0, 0))] [.c [B]] fun r H => r = .ret (.i .i64 (ordI l i k)) ∧ H = [.c [B]] := by
    subst hB; exact orderFn_spec l hok
  refine ALoop.ind (ip := false) tok (fun m r H => ∃ (i : Nat) (M : List Int), 1 ≤ i ∧ (i ≤ L.length ∨ i = 1) ∧ m = L.length - i ∧ M.length = L.length ∧ Plc l.length M ∧ insFrom (ordI l) (L.length - 1) 1 L = insFrom (ordI l) (L.length - i) i M ∧ H = [.c [B], .c (ints M)] ∧
    r = [(8, .i .i64 i), (0, .sl (some (1, 0)) 1 L.length c), (1, .i .i64 0), (2, .i .i64 L.length), (3, .fn (.func 57) [] [.p (some (0, 0))])]) (L.length - 1) ?_ ?_
  · refine Gh.regs [8, 0, 1, 2, 3] (Gh.of ⟨1, L, by omega, .inr rfl, rfl, rfl, hp, rfl, rfl, rfl⟩)
  · rintro m r H ⟨i, M, hi1, hi2, rfl, hM, hpM, hrun, rfl, rfl⟩
    conv => whnf
    by_cases h : (i : Int) < L.length
    · rw [decide_eq_true h]
      conv => whnf
      have hin : i < L.length := by omega
      obtain ⟨q, hq⟩ : ∃ q, L.length - i = q + 1 := ⟨L.length - i - 1, by omega⟩
      rw [hq, insFrom] at hrun
      refine ALoop.ind (ip := false) tok (fun m r H => ∃ (j : Nat) (N : List Int), j ≤ i ∧ j = m ∧ N.length = L.length ∧ Plc l.length N ∧ goA (ordI l) i M = goA (ordI l) j N ∧ H = [.c [B], .c (ints N)] ∧
        r = [(9, .i .i64 j), (8, .i .i64 i), (0, .sl (some (1, 0)) 1 L.length c), (1, .i .i64 0), (2, .i .i64 L.length), (3, .fn (.func 57) [] [.p (some (0, 0))])]) i ?_ ?_
      · exact Gh.regs [9, 8, 0, 1, 2, 3] (Gh.of ⟨i, M, by omega, rfl, hM, hpM, rfl, rfl, rfl⟩)
      · rintro m r H ⟨j, N, hj, rfl, hN, hpN, hgo, rfl, rfl⟩
        have hnl : (ints N).length = N.length := nums_length _ _
        conv => whnf
        refine ADraw.of tok mixed false [0, 1, 2, 3, 4, 5, 6, 7, 8, 9, 10, 11, 12, 13] [14, 15, 16] (by kernel_rfl) (fun _ _ _ _ h => h) ?_
        conv => whnf
        by_cases h0 : (j : Int) > 0
        · rw [decide_eq_true h0]
          conv => whnf
          obtain ⟨k, rfl⟩ : ∃ k, j = k + 1 := ⟨j - 1, by omega⟩
          refine ⟨⟨by omega, by omega⟩, ?_⟩
          conv => whnf
          rw [show (0 + ((k + 1 : Nat) : Int).toNat * 1) = k + 1 from by omega]
          refine aget_nums (by omega) ?_
          conv => whnf
          rw [show IntKind.i64.wrap (((k + 1 : Nat) : Int) - 1) = (k : Int) from by rw [w64 (by omega) (by omega)]; omega]
          refine ⟨⟨by omega, by omega⟩, ?_⟩
          conv => whnf
          rw [show (0 + (k : Int).toNat * 1) = k from by omega]
          refine aget_nums (by omega) ?_
          conv => whnf
          obtain ⟨x, hx⟩ : ∃ x : Nat, N[k + 1]'(by omega) = x := ⟨_, (Int.toNat_of_nonneg (hpN _ (List.getElem_mem _)).1).symm⟩
          obtain ⟨y, hy⟩ : ∃ y : Nat, N[k]'(by omega) = y := ⟨_, (Int.toNat_of_nonneg (hpN _ (List.getElem_mem _)).1).symm⟩
          have hxl := (hpN _ (List.getElem_mem (show k + 1 < N.length by omega))).2
          have hyl := (hpN _ (List.getElem_mem (show k < N.length by omega))).2
          have hdx : N.getD (k + 1) 0 = x := by rw [List.getD_eq_getElem?_getD, List.getElem?_eq_getElem (by omega), ← hx]; rfl
          have hdy : N.getD k 0 = y := by rw [List.getD_eq_getElem?_getD, List.getElem?_eq_getElem (by omega), ← hy]; rfl
          rw [hx] at hxl ⊢
          rw [hy] at hyl ⊢
          refine ACall.frame [0] [] rfl (args' := [.i .i64 x, .i .i64 y, .p (some (0, 0))]) (Hc := [.c [B]]) rfl ?_ (hcall x y (by omega) (by omega)) ?_
          · show [Blk.c [sub _ B]] = _
            rw [hsub]
          rintro r H ⟨rfl, rfl⟩
          refine ⟨.inl rfl, ?_⟩
          rw [show goA (ordI l) (k + 1) N = (if ordI l (N.getD (k + 1) 0) (N.getD k 0) < 0 then goA (ordI l) k (swapAt N k) else N) from rfl] at hgo
          rw [hdx, hdy] at hgo
          conv => whnf
          by_cases hlt : ordI l x y < 0
          · rw [decide_eq_true hlt]
            rw [if_pos hlt] at hgo
            conv => whnf
            refine ADraw.of tok mixed false [0, 1, 2, 3, 4, 5, 6, 7, 8, 9, 10, 11, 12, 13, 14] [15, 16, 17] (by kernel_rfl) (fun _ _ _ _ h => h) ?_
            conv => whnf
            have hwk : IntKind.i64.wrap (((k + 1 : Nat) : Int) - 1) = (k : Int) := by rw [w64 (by omega) (by omega)]; omega
            rw [hwk]
            refine ⟨⟨by omega, by omega⟩, ?_⟩
            conv => whnf
            rw [show (0 + (k : Int).toNat * 1) = k from by omega]
            refine aget_nums (by omega) ?_
            conv => whnf
            refine ⟨⟨by omega, by omega⟩, ?_⟩
            conv => whnf
            rw [show (0 + ((k + 1 : Nat) : Int).toNat * 1) = k + 1 from by omega]
            refine aget_nums (by omega) ?_
            conv => whnf
            refine ⟨⟨by omega, by omega⟩, ?_⟩
            conv => whnf
            refine ⟨by dsimp only; rw [nums_length]; omega, ?_⟩
            conv => whnf
            refine ⟨⟨by omega, by omega⟩, ?_⟩
            conv => whnf
            refine ⟨by dsimp only; rw [setCells_length, nums_length]; omega, ?_⟩
            conv => whnf
            refine Gh.regs [9, 8, 0, 1, 2, 3] (Gh.of ⟨_, ?_, k, swapAt N k, by omega, rfl, by rw [swapAt_length, hN], hpN.swapAt k (by omega), hgo, ?_, ?_⟩)
            · omega
            · show [Blk.c [sub _ B], _] = _
              rw [hsub]
              rw [show (0 + (k : Int).toNat * 1) = k from by omega, show (0 + ((k + 1 : Nat) : Int).toNat * 1) = k + 1 from by omega, hx, hy]
              unfold swapAt
              rw [hdx, hdy, setCells_nums, setCells_nums]
            · rw [hwk]; rfl
          · rw [decide_eq_false hlt]
            rw [if_neg hlt] at hgo
            conv => whnf
            rw [w64 (by omega) (by omega)]
            refine Gh.regs [8, 0, 1, 2, 3] (Gh.of ⟨L.length - (i + 1), by omega, i + 1, N, by omega, .inl (by omega), rfl, hN, hpN, ?_, ?_, rfl⟩)
            · rw [hrun, hgo, show L.length - (i + 1) = q from by omega]
            · show [Blk.c [sub _ B], _] = _
              rw [hsub]
        · rw [decide_eq_false h0]
          conv => whnf
          obtain rfl : j = 0 := by omega
          rw [show goA (ordI l) 0 N = N from rfl] at hgo
          rw [w64 (by omega) (by omega)]
          refine Gh.regs [8, 0, 1, 2, 3] (Gh.of ⟨L.length - (i + 1), by omega, i + 1, N, by omega, .inl (by omega), rfl, hN, hpN, ?_, rfl, rfl⟩)
          rw [hrun, hgo, show L.length - (i + 1) = q from by omega]
    · rw [decide_eq_false h]
      conv => whnf
      rw [show L.length - i = 0 from by omega] at hrun
      refine GhR.of ⟨rfl, ?_⟩
      rw [hrun]; rfl
end Go.AK
namespace Go.AK
open Go Go.RowKit Go.Proofs
set_option linter.unusedVariables false
set_option maxRecDepth 100000
theorem lenu_spec (n : Nat) (hn : n < 256) : ACall Try.prog 85 [.i .u64 n] [] fun r H => ∃ v, r = .ret (.i .i64 v) ∧ H = [] := by
  refine ACall.enter tok false Try.func85 rfl rfl rfl (AW_sound (ip := false) tok _ _ _ _ ?_)
  conv => whnf
  rw [decide_eq_false (by omega : ¬ ((n : Int) ≥ 4294967296))]
  conv => whnf
  rw [decide_eq_false (by omega : ¬ ((n : Int) ≥ 65536))]
  conv => whnf
  rw [decide_eq_false (by omega : ¬ ((n : Int) ≥ 256))]
  conv => whnf
  have hw : IntKind.u8.wrap (n : Int) = n := by rw [IntKind.wrap_u8]; omega
  refine ⟨⟨by rw [hw]; omega, ?_⟩, ?_⟩
  · rw [hw]
    refine Int.lt_of_lt_of_le (b := 256) (by omega) (of_decide_eq_true (by kernel_rfl))
  conv => whnf
  exact ⟨_, rfl, rfl⟩
theorem len_spec (n : Nat) (hn : n < 256) : ACall Try.prog 71 [.i .u64 n] [] fun r H => ∃ v, r = .ret (.i .i64 v) ∧ H = [] := by
  refine ACall.enter tok false Try.func71 rfl rfl rfl (AW_sound (ip := false) tok _ _ _ _ ?_)
  conv => whnf
  refine ACall.mono (lenu_spec n hn) ?_; rintro r H ⟨v, rfl, rfl⟩
  conv => whnf
  exact ⟨_, rfl, rfl⟩
theorem pdq_spec (l : List Fr) (hok : ∀ F ∈ l, F.ok) (L : List Int) (hL : L.length ≤ 12) (hp : Plc l.length L) (c : Nat) (v : Int) :
    ACall Try.prog 70 [.sl (some (1, 0)) 1 L.length c, .i .i64 0, .i .i64 L.length, .i .i64 v, .fn (.func 57) [] [.p (some (0, 0))]] [.c [.rs (frs l) 0 12 l.length], .c (ints L)]
      fun r H => r = .ret (.tup []) ∧ H = [.c [.rs (frs l) 0 12 l.length], .c (ints (insFrom (ordI l) (L.length - 1) 1 L))] := by
  refine ACall.enter tok false Try.func70 rfl rfl rfl (AW_sound (ip := false) tok _ _ _ _ ?_)
  conv => whnf
  refine ⟨fun E0 w0 E a w hb => ?_⟩
  refine (show ALoop _ _ _ _ _ _ _ from ?_).out E0 w0 E a w hb
  refine ALoop.ind (ip := false) tok (fun m r H => r = _ ∧ H = _) 0 (Gh.of ⟨rfl, rfl⟩) ?_
  rintro m r H ⟨rfl, rfl⟩
  conv => whnf
  rw [w64 (by omega) (by omega)]
  rw [decide_eq_true (by omega : (L.length : Int) - 0 ≤ 12)]
  conv => whnf
  refine ACall.mono (ins_spec l hok L (by omega) hp c) ?_
  rintro r H ⟨rfl, rfl⟩
  conv => whnf
  exact ⟨rfl, rfl⟩
theorem sortf_spec (l : List Fr) (hok : ∀ F ∈ l, F.ok) (L : List Int) (hL : L.length ≤ 12) (hp : Plc l.length L) (c : Nat) :
    ACall Try.prog 56 [.sl (some (1, 0)) 1 L.length c, .fn (.func 57) [] [.p (some (0, 0))]] [.c [.rs (frs l) 0 12 l.length], .c (ints L)]
      fun r H => r = .ret (.tup []) ∧ H = [.c [.rs (frs l) 0 12 l.length], .c (ints (insFrom (ordI l) (L.length - 1) 1 L))] := by
  refine ACall.enter tok false Try.func56 rfl rfl rfl (AW_sound (ip := false) tok _ _ _ _ ?_)
  conv => whnf
  rw [wu64 (by omega) (by omega)]
  refine ACall.frame [] [] rfl (args' := [.i .u64 L.length]) (Hc := []) rfl rfl (len_spec L.length (by omega)) ?_
  rintro r H ⟨v, rfl, rfl⟩
  refine ⟨.inl rfl, ?_⟩
  conv => whnf
  refine ACall.mono (pdq_spec l hok L hL hp c v) ?_
  rintro r H ⟨rfl, rfl⟩
  conv => whnf
  exact ⟨rfl, rfl⟩
end Go.AK
namespace Go.AK
open Go Go.RowKit Go.Proofs
set_option linter.unusedVariables false
set_option maxRecDepth 100000
def iota (n : Nat) : List Int := (List.range n).map fun (i : Nat) => (i : Int)
theorem iota_length (n : Nat) : (iota n).length = n := by simp [iota]
theorem iota_get (n i : Nat) (h : i < n) : (iota n).getD i 0 = i := by simp [iota, h]
theorem iota_plc (n : Nat) : Plc n (iota n) := fun x hx => by
  obtain ⟨i, hi, rfl⟩ := List.mem_map.1 hx
  have := List.mem_range.1 hi
  omega
/-- The places of frames, as they win. -/
def ordL (l : List Fr) : List Int := insFrom (ordI l) (l.length - 1) 1 (iota l.length)
theorem insFrom_length (cf : Int → Int → Int) : ∀ (n i : Nat) (L : List Int), (insFrom cf n i L).length = L.length
  | 0, i, L => rfl
  | n + 1, i, L => by rw [insFrom, insFrom_length cf n, goA_length]
theorem ordL_length (l : List Fr) : (ordL l).length = l.length := by rw [ordL, insFrom_length, iota_length]
theorem order_spec (l : List Fr) (hl : l.length ≤ 12) (hok : ∀ F ∈ l, F.ok) :
    ACall Try.prog 38 [.rs (frs l) 0 12 l.length] [] fun r H => ∃ v, ChkR l v ∧ ((v ≠ 0 ∧ r = .ret (.tup [.sl none 0 0 0, .i .i64 v]) ∧ H = []) ∨
      (v = 0 ∧ r = .ret (.tup [.sl (some (0, 0)) 1 l.length l.length, .i .i64 0]) ∧ H = [.c (ints (ordL l))])) := by
  refine ACall.gh ?_
  refine ACall.enter tok false Try.func38 rfl rfl rfl (AW_sound (ip := false) tok _ _ _ _ ?_)
  conv => whnf
  refine ACall.frame [] [] rfl (args' := [.rs (frs l) 0 12 l.length]) (Hc := []) (by show [AV.rs (subs _ (frs l)) 0 12 l.length] = _; rw [subs_frs]) rfl (acheck_spec l (by omega) hok) ?_
  rintro r H ⟨v, hv, rfl, rfl⟩
  refine ⟨.inl rfl, ?_⟩
  conv => whnf
  by_cases h0 : v = 0
  · rw [show (v != 0) = false from by rw [h0]; rfl]
    conv => whnf
    refine ⟨⟨by omega, by omega, by show (8 : Int) * l.length ≤ _; omega, by omega⟩, ?_⟩
    conv => whnf
    rw [show (List.replicate (l.length : Int).toNat (AV.i .i64 0).cells).flatten = ints (List.replicate l.length 0) from by simp [AV.cells, nums]]
    rw [Int.toNat_natCast]
    generalize hn : l.length = n
    refine ALoop.ind (ip := false) tok (fun m r H => ∃ (k : Nat) (L : List Int), k ≤ n ∧ m = n - k ∧ L.length = n ∧ (∀ j, j < k → L.getD j 0 = j) ∧ H = [.c [.rs (frs l) 0 12 n], .c (ints L)] ∧
        r = [(17, .i .i64 k), (16, .i .i64 n), (5, .sl (some (1, 0)) 1 n n), (1, .p (some (0, 0)))]) n ?_ ?_
    · refine Gh.regs [17, 16, 5, 1] (Gh.of ⟨0, List.replicate n 0, by omega, by omega, by simp, by intro j h1; omega, rfl, rfl⟩)
    · rintro m r H ⟨k, L, hk, rfl, hLl, hL, rfl, rfl⟩
      conv => whnf
      by_cases h : (k : Int) < n
      · rw [decide_eq_true h]
        conv => whnf
        refine ⟨⟨by omega, by omega⟩, ?_⟩
        conv => whnf
        refine ⟨by dsimp only; rw [nums_length]; omega, ?_⟩
        conv => whnf
        rw [show 0 + (k : Int).toNat * 1 = k from by omega]
        rw [w64 (by omega) (by omega)]
        refine Gh.regs [17, 16, 5, 1] (Gh.of ⟨_, ?_, k + 1, L.set k k, by omega, rfl, by simp [hLl], ?_, ?_, rfl⟩)
        · omega
        · intro j h2
          rw [getD_set L _ _ _ (by omega)]
          by_cases e : k = j
          · rw [if_pos e, e]
          · rw [if_neg e]; exact hL j (by omega)
        · show [Blk.c _, Blk.c (setCells (ints L) k (AV.i .i64 k).cells)] = _
          rw [setCells_nums]
      · rw [decide_eq_false h]
        conv => whnf
        have hkn : k = n := by omega
        subst hkn
        have hLi : L = iota k := list_ext (by rw [hLl, iota_length]) fun i hi => by rw [hL i (by omega), iota_get k i (by omega)]
        subst hLi
        have hs := sortf_spec l hok (iota k) (by omega) (by rw [hn]; exact iota_plc k) k
        rw [iota_length, hn] at hs
        refine ACall.mono hs ?_
        rintro r H ⟨rfl, rfl⟩
        conv => whnf
        refine GhR.sel [1] rfl (GhR.of ⟨v, hv, .inr ⟨h0, rfl, ?_⟩⟩)
        show [Blk.c (subs _ (ints _))] = _
        rw [subs_nums, ordL, hn]
  · rw [show (v != 0) = true from bne_iff_ne.2 h0]
    conv => whnf
    refine GhR.sel [] rfl (GhR.of ⟨v, hv, .inl ⟨h0, rfl, rfl⟩⟩)
theorem winner_spec (l : List Fr) (hl : l.length ≤ 12) (hok : ∀ F ∈ l, F.ok) :
    ACall Try.prog 37 [.rs (frs l) 0 12 l.length] [] fun r H => (l = [] ∧ r = .ret (.tup [.i .i64 0, .i .i64 16]) ∧ H = []) ∨ (l ≠ [] ∧ ∃ v, ChkR l v ∧ r = .ret (.tup [.i .i64 (if v = 0 then (ordL l).getD 0 0 else 0), .i .i64 v]) ∧ H = []) := by
  refine ACall.gh ?_
  refine ACall.enter tok false Try.func37 rfl rfl rfl (AW_sound (ip := false) tok _ _ _ _ ?_)
  conv => whnf
  cases l with
  | nil =>
    rw [show (((([] : List Fr).length : Nat) : Int) == 0) = true from rfl]
    conv => whnf
    refine GhR.of (.inl ⟨rfl, rfl, rfl⟩)
  | cons F l =>
    rw [show ((((F :: l).length : Nat) : Int) == 0) = false from beq_eq_false_iff_ne.2 (by simp only [List.length_cons]; omega)]
    conv => whnf
    refine ACall.mono (order_spec (F :: l) hl hok) ?_
    rintro r H ⟨v, hv, ⟨h0, rfl, rfl⟩ | ⟨h0, rfl, rfl⟩⟩
    · conv => whnf
      rw [show (v != 0) = true from bne_iff_ne.2 h0]
      conv => whnf
      refine GhR.of (.inr ⟨by simp, v, hv, ?_, rfl⟩)
      rw [if_neg h0]
    · conv => whnf
      refine ⟨⟨by omega, by simp⟩, ?_⟩
      conv => whnf
      refine aget_nums (by rw [ordL_length]; simp) ?_
      conv => whnf
      refine GhR.sel [] rfl (GhR.of (.inr ⟨by simp, v, hv, ?_, rfl⟩))
      rw [if_pos h0, h0, List.getD_eq_getElem?_getD, List.getElem?_eq_getElem (by rw [ordL_length]; simp)]
      rfl
end Go.AK
namespace Go.AK
open Go Go.RowKit Go.Proofs
set_option linter.unusedVariables false
set_option maxRecDepth 100000
theorem aget_d {F : Fr} {k o : Nat} (ho : o = 4 + k) (hk : k < 8) {K : AV → Prop} (h : K (.i .u8 (F.d.getD k 0))) : aget F.cells o K := by
  subst ho
  have h2 : k = 0 ∨ k = 1 ∨ k = 2 ∨ k = 3 ∨ k = 4 ∨ k = 5 ∨ k = 6 ∨ k = 7 := by omega
  rcases h2 with rfl | rfl | rfl | rfl | rfl | rfl | rfl | rfl <;> exact h
theorem Fr.d_zero (F : Fr) (u : Nat) (h : ∀ k, k < 8 → u ≤ k → F.d.getD k 0 = 0) : ∀ x ∈ F.d.drop u, x = 0 := fun x hx => by
  obtain ⟨i, hi, rfl⟩ := List.mem_iff_getElem.1 hx
  have hl : F.d.length = 8 := rfl
  rw [List.length_drop] at hi
  have := h (u + i) (by omega) (by omega)
  rw [List.getElem_drop]
  rw [List.getD_eq_getElem?_getD, List.getElem?_eq_getElem (by omega)] at this
  exact this
theorem check3_spec (F : Fr) (hF : F.ok) : ACall Try.prog 48 [F.av] [] fun r H => r = .ret (.i .i64 F.chk) ∧ H = [] := by
  refine ACall.gh ?_
  refine ACall.enter tok false Try.func48 rfl rfl rfl (AW_sound (ip := false) tok _ _ _ _ ?_)
  have fin : ∀ v (H : Heap), v = F.chk → GhR 0 (fun r H => r = ARes.ret (.i .i64 F.chk) ∧ H = []) (.ret (.i .i64 v)) H := by
    rintro v H rfl
    exact GhR.sel [] rfl (GhR.of ⟨rfl, rfl⟩)
  have bad : ∀ (H : Heap), ¬F.may → GhR 0 (fun r H => r = ARes.ret (.i .i64 F.chk) ∧ H = []) (.ret (.i .i64 14)) H := fun H h => fin _ _ (Fr.bad h).symm
  conv => whnf
  cases he : F.ext <;> (conv => whnf)
  all_goals
    by_cases h1 : F.id < 0
    · rw [decide_eq_true h1]
      conv => whnf
      exact bad _ fun h => by have := h.1; omega
    rw [decide_eq_false h1]
    conv => whnf
    by_cases h2 : F.id > (if F.ext = true then 536870911 else 2047)
    · have h2' := h2
      simp only [he, if_true, if_false, reduceCtorEq] at h2'
      rw [decide_eq_true h2']
      conv => whnf
      exact bad _ fun h => by have := h.2.1; omega
    have h2' := h2
    simp only [he, if_true, if_false, reduceCtorEq] at h2'
    rw [decide_eq_false h2']
    conv => whnf
    by_cases h3 : F.len < 0
    · rw [decide_eq_true h3]
      conv => whnf
      exact bad _ fun h => by have := h.2.2.1; omega
    rw [decide_eq_false h3]
    conv => whnf
    by_cases h4 : F.len > 8
    · rw [decide_eq_true h4]
      conv => whnf
      exact bad _ fun h => by have := h.2.2.2.1; omega
    rw [decide_eq_false h4]
    conv => whnf
    refine ALoop.ind (ip := false) tok (fun m r H => ∃ k : Nat, k ≤ 8 ∧ m = 8 - k ∧ (∀ j, j < k → F.out ≤ j → F.d.getD j 0 = 0) ∧ H = [.c F.cells] ∧ r = [(4, .i .i64 k), (1, .p (some (0, 0)))]) 8 ?_ ?_
    · exact Gh.regs [4, 1] (Gh.of ⟨0, by omega, by omega, fun j h => by omega, rfl, rfl⟩)
    · rintro m r H ⟨k, hk, rfl, hz, rfl, rfl⟩
      conv => whnf
      by_cases h5 : (k : Int) < 8
      · rw [decide_eq_true h5]
        conv => whnf
        refine ⟨⟨by omega, by omega⟩, ?_⟩
        conv => whnf
        refine aget_d (F := F) (k := k) (by dsimp only; omega) (by omega) ?_
        conv => whnf
        have hk8 : k < 8 := by omega
        have nx : ∀ (r : Regs), (F.d.getD k 0 = 0 ∨ (F.rtr = false ∧ (k : Int) < F.len)) → keepR [4, 1] r = [(4, .i .i64 (IntKind.i64.wrap ((k : Int) + 1))), (1, .p (some (0, 0)))] → Gh 0 Try.f48.ntmps (fun r'' H'' => ∃ m, m < 8 - k ∧ ∃ k : Nat, k ≤ 8 ∧ m = 8 - k ∧ (∀ j, j < k → F.out ≤ j → F.d.getD j 0 = 0) ∧ H'' = [.c F.cells] ∧ r'' = [(4, .i .i64 k), (1, .p (some (0, 0)))]) r [.c F.cells] := fun r h6 h7 => by
          refine Gh.regs [4, 1] (Gh.of ⟨8 - (k + 1), by omega, k + 1, by omega, rfl, ?_, rfl, ?_⟩)
          · intro j h8 h9
            by_cases e : j = k
            · subst e
              rcases h6 with h6 | ⟨h6, h10⟩
              · exact h6
              · have : F.out = F.len.toNat := if_neg (by rw [h6]; exact Bool.false_ne_true)
                omega
            · exact hz j (by omega) h9
          · rw [h7, w64 (by omega) (by omega)]; rfl
        have hbad : F.d.getD k 0 ≠ 0 → (F.rtr = true ∨ F.len ≤ k) → ¬F.may := fun h6 h7 hm => by
          have ho : F.out ≤ k := by
            unfold Fr.out
            split
            · omega
            · rename_i h8
              rcases h7 with h7 | h7
              · exact absurd h7 h8
              · omega
          have hl : F.d.length = 8 := rfl
          refine h6 (hm.2.2.2.2 _ ?_)
          rw [List.getD_eq_getElem?_getD, List.getElem?_eq_getElem (by omega)]
          exact List.mem_iff_getElem.2 ⟨k - F.out, by rw [List.length_drop]; omega, by rw [List.getElem_drop]; simp only [show F.out + (k - F.out) = k from by omega]; rfl⟩
        by_cases h6 : F.d.getD k 0 = 0
        · rw [show (F.d.getD k 0 != 0) = false from by rw [h6]; rfl]
          conv => whnf
          refine nx _ (.inl h6) ?_
          rfl
        · rw [show (F.d.getD k 0 != 0) = true from bne_iff_ne.2 h6]
          conv => whnf
          cases hr : F.rtr
          · conv => whnf
            by_cases h7 : (k : Int) ≥ F.len
            · rw [decide_eq_true h7]
              conv => whnf
              exact bad _ (hbad h6 (.inr h7))
            · rw [decide_eq_false h7]
              conv => whnf
              refine nx _ (.inr ⟨hr, by omega⟩) ?_
              rfl
          · conv => whnf
            exact bad _ (hbad h6 (.inl hr))
      · rw [decide_eq_false h5]
        conv => whnf
        refine fin _ _ (Fr.good ⟨by omega, by omega, by omega, by omega, F.d_zero _ fun j h6 h7 => hz j (by omega) h7⟩).symm
end Go.AK
namespace Go.AK
open Go Go.RowKit Go.Proofs
set_option linter.unusedVariables false
set_option maxRecDepth 100000
theorem flag_spec (b : Bool) : ACall Try.prog 55 [.b b] [] fun r H => r = .ret (.i .i64 (if b = true then 1 else 0)) ∧ H = [] := by
  refine ACall.enter tok false Try.func55 rfl rfl rfl (AW_sound (ip := false) tok _ _ _ _ ?_)
  cases b
  · conv => whnf
    exact ⟨rfl, rfl⟩
  · conv => whnf
    exact ⟨rfl, rfl⟩
/-- A row that is made anew. -/
def NewRow (L : List Int) (r : ARes) (H : Heap) : Prop := (L = [] ∧ r = .ret (.sl none 0 0 0) ∧ H = []) ∨ (L ≠ [] ∧ ∃ c, L.length ≤ c ∧ r = .ret (.sl (some (0, 0)) 1 L.length c) ∧ H = [.c (ints L)])
theorem ofI_succ (n : Int) (w : Nat) : ofI n (w + 1) = ofI (n / 2) w ++ [n % 2] := rfl
theorem digits_spec : ∀ (w : Nat) (n : Int), 0 ≤ n → n < 9223372036854775808 → w ≤ 64 → ACall Try.prog 54 [.i .i64 n, .i .i64 w] [] (NewRow (ofI n w))
  | 0, n, h0, h1, hw => by
    refine ACall.enter tok false Try.func54 rfl rfl rfl (AW_sound (ip := false) tok _ _ _ _ ?_)
    conv => whnf
    exact .inl ⟨rfl, rfl, rfl⟩
  | w + 1, n, h0, h1, hw => by
    refine ACall.gh ?_
    refine ACall.enter tok false Try.func54 rfl rfl rfl (AW_sound (ip := false) tok _ _ _ _ ?_)
    conv => whnf
    rw [show (((w + 1 : Nat) : Int) == 0) = false from beq_eq_false_iff_ne.2 (by omega)]
    conv => whnf
    have hq : IntKind.i64.wrap (n.tdiv 2) = n / 2 := by rw [Int.tdiv_eq_ediv_of_nonneg h0, w64 (by omega) (by omega)]
    have hw1 : IntKind.i64.wrap (((w + 1 : Nat) : Int) - 1) = (w : Int) := by rw [w64 (by omega) (by omega)]; omega
    have hr : n.tmod 2 = n % 2 := Int.tmod_eq_emod_of_nonneg h0
    refine ⟨by decide, ?_⟩
    conv => whnf
    rw [hq, hw1]
    refine ACall.mono (digits_spec w (n / 2) (by omega) (by omega) (by omega)) ?_
    have hne : ofI n (w + 1) ≠ [] := by rw [ofI_succ]; simp
    rintro r H (⟨he, rfl, rfl⟩ | ⟨he, c, hc, rfl, rfl⟩)
    · conv => whnf
      refine ⟨by decide, ?_⟩
      conv => whnf
      rw [hr]
      refine ⟨by show 1 ≤ (1 : Nat); omega, ?_⟩
      conv => whnf
      refine ⟨rfl, by (try dsimp only); omega, by (try dsimp only); omega, fun c hc => ?_⟩
      conv => whnf
      have hw0 : w = 0 := by
        have := congrArg List.length he
        rw [ofI_length] at this; exact this
      subst hw0
      refine GhR.sel [1] rfl (GhR.of (.inr ⟨hne, c, by rw [ofI_length]; omega, rfl, rfl⟩))
    · conv => whnf
      refine ⟨by decide, ?_⟩
      conv => whnf
      rw [hr]
      have hl := ofI_length w (n / 2)
      refine ⟨by dsimp only; rw [nums_length]; omega, ?_⟩
      conv => whnf
      refine ⟨by show 1 ≤ (1 : Nat); omega, ?_⟩
      conv => whnf
      refine ⟨rfl, by (try dsimp only); omega, by (try dsimp only); omega, fun c2 hc2 => ?_⟩
      conv => whnf
      have hl2 := ofI_length (w + 1) n
      refine GhR.sel [2] rfl (GhR.of (.inr ⟨hne, c2, by omega, ?_, ?_⟩))
      · rw [hl2, hl]; rfl
      · show [Blk.c (subs _ (List.take ((ofI (n / 2) w).length * 1) (List.drop 0 (ints (ofI (n / 2) w))) ++ ints [n % 2]))] = _
        rw [List.drop_zero, List.take_of_length_le (by rw [nums_length]; omega), ← nums_append, subs_nums, ofI_succ]
theorem arb3_spec (F : Fr) (hm : F.may) : ACall Try.prog 36 [F.av] [] fun r H => ∃ c, F.row.length ≤ c ∧ r = .ret (.sl (some (0, 0)) 1 F.row.length c) ∧ H = [.c (ints F.row)] := by
  refine ACall.gh ?_
  refine ACall.enter tok false Try.func36 rfl rfl rfl (AW_sound (ip := false) tok _ _ _ _ ?_)
  have hi := hm.1
  have hi2 := hm.2.1
  conv => whnf
  cases he : F.ext
  · rw [he] at hi2
    simp only [Bool.false_eq_true, if_false] at hi2
    conv => whnf
    refine ADraw.gh (Gh.frz 0 rfl (Gh.of ?_))
    refine ADraw.ofS tok mixed false [4] [0, 1, 3, 4] [2, 5, 6, 7, 8] (by kernel_rfl) (fun _ _ _ _ h => h) ?_
    conv => whnf
    have hl := ofI_length 11 F.id
    have hl2 : (nums .i64 (ofI F.id 11)).length = 11 := by rw [nums_length, hl]
    refine ACall.frame [] [] rfl (args' := [.i .i64 F.id, .i .i64 (11 : Nat)]) (Hc := []) rfl rfl (digits_spec 11 F.id hi (by omega) (by omega)) ?_
    rintro r H (⟨h0, _⟩ | ⟨_, c, hc, rfl, rfl⟩)
    · rw [h0] at hl; cases hl
    refine ⟨.inl rfl, ?_⟩
    conv => whnf
    refine ACall.frame [] [] rfl (args' := [.b F.rtr]) (Hc := []) rfl rfl (flag_spec F.rtr) ?_
    rintro r H ⟨rfl, rfl⟩
    refine ⟨.inl rfl, ?_⟩
    conv => whnf
    refine ⟨by dsimp only; rw [subs_nums, hl2, hl]; omega, ?_⟩
    conv => whnf
    refine ⟨by show 2 ≤ (2 : Nat); omega, ?_⟩
    conv => whnf
    refine ⟨rfl, by (try dsimp only); rw [hl]; omega, by (try dsimp only); rw [hl]; omega, fun c2 hc2 => ?_⟩
    conv => whnf
    have hrow : F.row = ofI F.id 11 ++ [F.rt, 0] := by rw [Fr.row, he]; rfl
    have hlr : F.row.length = 13 := by rw [hrow, List.length_append, ofI_length]; rfl
    rw [hl] at hc2
    refine GhR.sel [3] rfl (GhR.of ⟨c2, by omega, ?_, ?_⟩)
    · rw [hlr, hl]; rfl
    · show [Blk.c (subs _ (List.take ((ofI F.id 11).length * 1) (List.drop 0 (subs _ (ints (ofI F.id 11)))) ++ ints [F.rt, 0]))] = _
      rw [subs_nums, List.drop_zero, List.take_of_length_le (by rw [hl2, hl]; omega), ← nums_append, subs_nums, hrow]
  · rw [he] at hi2
    simp only [if_true] at hi2
    conv => whnf
    have hq : IntKind.i64.wrap (F.id.tdiv 262144) = F.id / 2 ^ 18 := by
      have : F.id / 2 ^ 18 = F.id / 262144 := rfl
      rw [this, Int.tdiv_eq_ediv_of_nonneg hi, w64 (by omega) (by omega)]
    have hr : F.id.tmod 262144 = F.id % 2 ^ 18 := Int.tmod_eq_emod_of_nonneg hi
    have hd : F.id / 2 ^ 18 = F.id / 262144 := rfl
    have hd2 : F.id % 2 ^ 18 = F.id % 262144 := rfl
    have hl1 := ofI_length 11 (F.id / 2 ^ 18)
    have hl1n : (nums .i64 (ofI (F.id / 2 ^ 18) 11)).length = 11 := by rw [nums_length, hl1]
    have hl2 := ofI_length 18 (F.id % 2 ^ 18)
    have hl2n : (nums .i64 (ofI (F.id % 2 ^ 18) 18)).length = 18 := by rw [nums_length, hl2]
    refine ⟨by decide, ?_⟩
    conv => whnf
    rw [hq]
    refine ACall.frame [] [] rfl (args' := [.i .i64 (F.id / 2 ^ 18), .i .i64 (11 : Nat)]) (Hc := []) rfl rfl (digits_spec 11 (F.id / 2 ^ 18) (by omega) (by omega) (by omega)) ?_
    rintro r H (⟨h0, _⟩ | ⟨_, c, hc, rfl, rfl⟩)
    · rw [h0] at hl1; cases hl1
    refine ⟨.inl rfl, ?_⟩
    conv => whnf
    refine ⟨by dsimp only; rw [subs_nums, hl1n, hl1]; omega, ?_⟩
    conv => whnf
    refine ⟨by show 2 ≤ (2 : Nat); omega, ?_⟩
    conv => whnf
    refine ⟨rfl, by (try dsimp only); rw [hl1]; omega, by (try dsimp only); rw [hl1]; omega, fun c2 hc2 => ?_⟩
    conv => whnf
    refine ⟨by decide, ?_⟩
    conv => whnf
    rw [hr]
    refine ACall.frame [] [] rfl (args' := [.i .i64 (F.id % 2 ^ 18), .i .i64 (18 : Nat)]) (Hc := []) rfl rfl (digits_spec 18 (F.id % 2 ^ 18) (by omega) (by omega) (by omega)) ?_
    rintro r H (⟨h0, _⟩ | ⟨_, c3, hc3, rfl, rfl⟩)
    · rw [h0] at hl2; cases hl2
    refine ⟨.inl rfl, ?_⟩
    conv => whnf
    refine ⟨by dsimp only; rw [subs_nums, List.length_append, List.length_take, List.drop_zero, hl1n, hl1]; show 13 ≤ min 11 11 + 2; omega, ?_⟩
    conv => whnf
    refine ⟨by dsimp only; rw [subs_nums, hl2n, hl2]; omega, ?_⟩
    conv => whnf
    refine ⟨by dsimp only; rw [subs_nums, nums_drop, nums_take]; exact ones_nums _ _, by dsimp only; rw [hl1, hl2]; omega, by rw [hl1, hl2]; omega, fun c4 hc4 => ?_⟩
    conv => whnf
    refine ACall.frame [] [] rfl (args' := [.b F.rtr]) (Hc := []) rfl rfl (flag_spec F.rtr) ?_
    rintro r H ⟨rfl, rfl⟩
    refine ⟨.inl rfl, ?_⟩
    conv => whnf
    refine ⟨?_, ?_⟩
    · show 0 + ((ofI (F.id / 2 ^ 18) 11).length + 2 + (ofI (F.id % 2 ^ 18) 18).length) * 1 ≤ (List.take (((ofI (F.id / 2 ^ 18) 11).length + 2) * 1) (List.drop 0 (List.take ((ofI (F.id / 2 ^ 18) 11).length * 1) (List.drop 0 (subs _ (ints (ofI (F.id / 2 ^ 18) 11)))) ++ ints [1, 1])) ++ List.take ((ofI (F.id % 2 ^ 18) 18).length * 1) (List.drop 0 (subs _ (ints (ofI (F.id % 2 ^ 18) 18))))).length
      simp only [subs_nums, List.drop_zero, List.length_append, List.length_take, nums_length, hl1, hl2, List.length_cons, List.length_nil]
      omega
    conv => whnf
    refine ⟨by show 1 ≤ (1 : Nat); omega, ?_⟩
    conv => whnf
    refine ⟨rfl, by (try dsimp only); rw [hl1, hl2]; omega, by (try dsimp only); rw [hl1, hl2]; omega, fun c5 hc5 => ?_⟩
    conv => whnf
    have hrow : F.row = ofI (F.id / 2 ^ 18) 11 ++ [1, 1] ++ ofI F.id 18 ++ [F.rt] := by rw [Fr.row, he]; rfl
    have hlr : F.row.length = 32 := by rw [hrow, List.length_append, List.length_append, List.length_append, ofI_length, ofI_length]; rfl
    refine GhR.sel [7] rfl (GhR.of ⟨c5, by omega, ?_, ?_⟩)
    · rw [hlr, hl1, hl2]; rfl
    · show [Blk.c (subs _ (List.take (((ofI (F.id / 2 ^ 18) 11).length + 2 + (ofI (F.id % 2 ^ 18) 18).length) * 1) (List.drop 0 (List.take (((ofI (F.id / 2 ^ 18) 11).length + 2) * 1) (List.drop 0 (List.take ((ofI (F.id / 2 ^ 18) 11).length * 1) (List.drop 0 (subs _ (ints (ofI (F.id / 2 ^ 18) 11)))) ++ ints [1, 1])) ++ List.take ((ofI (F.id % 2 ^ 18) 18).length * 1) (List.drop 0 (subs _ (ints (ofI (F.id % 2 ^ 18) 18)))))) ++ ints [F.rt]))] = _
      simp only [subs_nums, List.drop_zero, Nat.mul_one]
      rw [nums_take, ← nums_append, nums_take, nums_take, ← nums_append, nums_take, ← nums_append, subs_nums, hrow]
      rw [List.take_of_length_le (l := ofI (F.id / 2 ^ 18) 11) (by omega), List.take_of_length_le (l := ofI (F.id % 2 ^ 18) 18) (by omega)]
      rw [List.take_of_length_le (l := ofI (F.id / 2 ^ 18) 11 ++ [1, 1]) (by simp), List.take_of_length_le (by simp only [List.length_append, List.length_cons, List.length_nil]; omega), ofI_mod]
end Go.AK
namespace Go.AK
open Go Go.RowKit Go.Proofs
set_option linter.unusedVariables false
set_option maxRecDepth 100000
/-- Why frames may not begin at once, as a number. -/
def chkF (l : List Fr) : Int := if (l.all fun F => decide F.may) = true then (if ((List.range l.length).any fun i => (l.take i).any fun G => (at_ l i).rival G) = true then 23 else 0) else 14
theorem ChkR.eq {l : List Fr} {v : Int} (h : ChkR l v) : v = chkF l := by
  unfold chkF
  have ha : (∀ F ∈ l, F.may) → (l.all fun F => decide F.may) = true := fun h => List.all_eq_true.2 fun F hF => decide_eq_true (h F hF)
  rcases h with ⟨rfl, F, hF, hn⟩ | ⟨rfl, hm, i, hi, hr⟩ | ⟨rfl, hm, hr⟩
  · rw [if_neg]
    intro h2
    exact hn (of_decide_eq_true (List.all_eq_true.1 h2 F hF))
  · rw [if_pos (ha hm), if_pos]
    exact List.any_eq_true.2 ⟨i, List.mem_range.2 hi, by rw [at_get l i hi]; exact hr⟩
  · rw [if_pos (ha hm), if_neg]
    intro h2
    obtain ⟨i, hi, h3⟩ := List.any_eq_true.1 h2
    have hi := List.mem_range.1 hi
    rw [at_get l i hi, hr i hi] at h3; cases h3
def frOf (id : Int) (ext : Bool) : Fr := ⟨id, ext, false, 0, 0, 0, 0, 0, 0, 0, 0, 0⟩
theorem frOf_ok (id : Int) (ext : Bool) (h : -9223372036854775808 ≤ id ∧ id ≤ 9223372036854775807) : (frOf id ext).ok :=
  ⟨h, by show (-9223372036854775808 : Int) ≤ 0 ∧ (0 : Int) ≤ 9223372036854775807; omega, fun x hx => by
    have : x ∈ List.replicate 8 (0 : Int) := hx
    rw [(List.mem_replicate.1 this).2]; omega⟩
theorem awake_spec : ACall Try.prog 31 [] [] fun r H => r = .ret (.b true) ∧ H = [] := by
  refine ACall.gh ?_
  refine ACall.enter tok false Try.func31 rfl rfl rfl (AW_sound (ip := false) tok _ _ _ _ ?_)
  have okA := frOf_ok 291 false (by omega)
  have okB := frOf_ok 290 false (by omega)
  have okC := frOf_ok 5 false (by omega)
  have okD := frOf_ok 1310720 true (by omega)
  conv => whnf
  refine ⟨by show 12 ≤ (12 : Nat); omega, ?_⟩
  conv => whnf
  refine ⟨by show 12 ≤ (12 : Nat); omega, ?_⟩
  conv => whnf
  refine ⟨by show 12 ≤ (12 : Nat); omega, ?_⟩
  conv => whnf
  refine ⟨by show 12 ≤ (12 : Nat); omega, ?_⟩
  conv => whnf
  refine ACall.frame [] [4] rfl (args' := [.rs (frs [frOf 291 false, frOf 290 false]) 0 12 2]) (Hc := []) rfl rfl (winner_spec [frOf 291 false, frOf 290 false] (by decide) (fun X hX => ?_)) ?_
  · rcases List.mem_cons.1 hX with rfl | hX
    · exact okA
    · rw [List.mem_singleton.1 hX]; exact okB
  rintro r H (⟨h, _⟩ | ⟨_, v, hv, rfl, rfl⟩)
  · cases h
  rw [hv.eq]
  rw [show chkF [frOf 291 false, frOf 290 false] = 0 from by kernel_rfl]
  rw [if_pos rfl, show (ordL [frOf 291 false, frOf 290 false]).getD 0 0 = 1 from by kernel_rfl]
  refine ⟨.inr ⟨rfl, rfl⟩, ?_⟩
  conv => whnf
  refine ACall.frame [] [] rfl (args' := [(frOf 291 false).av, (frOf 290 false).av]) (Hc := []) rfl rfl (loses_spec _ _ okA okB) ?_
  rintro r H ⟨v, hv, rfl, rfl⟩
  rw [hv.eq, show chkF [frOf 291 false, frOf 290 false] = 0 from by kernel_rfl, if_pos rfl, show losesL (frOf 291 false).row (frOf 290 false).row 0 = 10 from by kernel_rfl]
  refine ⟨.inl rfl, ?_⟩
  conv => whnf
  refine ACall.frame [] [] rfl (args' := [(frOf 1310720 true).av, (frOf 5 false).av]) (Hc := []) rfl rfl (loses_spec _ _ okD okC) ?_
  rintro r H ⟨v, hv, rfl, rfl⟩
  rw [hv.eq, show chkF [frOf 1310720 true, frOf 5 false] = 0 from by kernel_rfl, if_pos rfl, show losesL (frOf 1310720 true).row (frOf 5 false).row 0 = 11 from by kernel_rfl]
  refine ⟨.inl rfl, ?_⟩
  conv => whnf
  refine ACall.frame [] [] rfl (args' := [(frOf 5 false).av, (frOf 1310720 true).av]) (Hc := []) rfl rfl (loses_spec _ _ okC okD) ?_
  rintro r H ⟨v, hv, rfl, rfl⟩
  rw [hv.eq, show chkF [frOf 5 false, frOf 1310720 true] = 0 from by kernel_rfl, if_pos rfl, show losesL (frOf 5 false).row (frOf 1310720 true).row 0 = -1 from by kernel_rfl]
  refine ⟨.inl rfl, ?_⟩
  conv => whnf
  refine ACall.frame [] [5] rfl (args' := [.rs (ints [1, 0, 1]) 0 1 3]) (Hc := []) rfl rfl (wired_spec [1, 0, 1] (by decide)) ?_
  rintro r H ⟨rfl, rfl⟩
  rw [show (if (0 : Int) ∈ ([1, 0, 1] : List Int) then (0 : Int) else 1) = 0 from rfl]
  refine ⟨.inr ⟨rfl, rfl⟩, ?_⟩
  conv => whnf
  exact GhR.sel [] rfl (GhR.of ⟨rfl, rfl⟩)
end Go.AK
namespace Go.AK
open Go Go.RowKit Go.Proofs
set_option linter.unusedVariables false
set_option maxRecDepth 100000
/-- The first place where rows differ, as far as both go; -1: nowhere. -/
def placeL : List Int → List Int → Int → Int
  | a :: L, b :: M, k => if a = b then placeL L M (k + 1) else k
  | _, _, _ => -1
theorem placeL_end {L M : List Int} (h : L = [] ∨ M = []) (k : Int) : placeL L M k = -1 := by
  rcases h with rfl | rfl
  · rfl
  · cases L <;> rfl
theorem place_spec (F G : Fr) (hF : F.may) (hG : G.may) : ACall Try.prog 35 [F.av, G.av] [] fun r H => r = .ret (.i .i64 (placeL F.row G.row 0)) ∧ H = [] := by
  refine ACall.gh ?_
  refine ACall.enter tok false Try.func35 rfl rfl rfl (AW_sound (ip := false) tok _ _ _ _ ?_)
  conv => whnf
  refine ACall.frame [] [] rfl (args' := [F.av]) (Hc := []) rfl rfl (arb3_spec F hF) ?_
  rintro r H ⟨c, hc, rfl, rfl⟩
  refine ⟨.inl rfl, ?_⟩
  conv => whnf
  refine ACall.frame [] [] rfl (args' := [G.av]) (Hc := []) rfl rfl (arb3_spec G hG) ?_
  rintro r H ⟨d, hd, rfl, rfl⟩
  refine ⟨.inl rfl, ?_⟩
  conv => whnf
  have hfl := F.row_le
  have hgl := G.row_le
  refine ALoop.ind (ip := false) tok (fun m r H => ∃ (k : Nat), k ≤ F.row.length ∧ k ≤ G.row.length ∧ m = F.row.length - k ∧ placeL F.row G.row 0 = placeL (F.row.drop k) (G.row.drop k) k ∧ H = [.c (ints F.row), .c (ints G.row)] ∧
    r = [(7, .i .i64 k), (5, .sl (some (0, 0)) 1 F.row.length c), (6, .sl (some (1, 0)) 1 G.row.length d), (4, .i .i64 0)]) F.row.length ?_ ?_
  · refine Gh.regs [7, 5, 6, 4] (Gh.sel [2, 3] rfl (Gh.of ⟨0, by omega, by omega, by omega, rfl, ?_, ?_⟩))
    · show [Blk.c (subs _ (subs _ (ints F.row))), Blk.c (subs _ (subs _ (ints G.row)))] = _
      simp only [subs_nums]
    · refine keep_eq (show keepR _ _ = [_, _, _, _] from rfl) ?_
      rfl
  · rintro m r H ⟨k, hk, hk2, rfl, hc, rfl, rfl⟩
    conv => whnf
    by_cases h1 : (k : Int) < F.row.length
    · rw [decide_eq_true h1]
      conv => whnf
      by_cases h2 : (k : Int) < G.row.length
      · rw [decide_eq_true h2]
        have hk1 : k < F.row.length := by omega
        have hk2 : k < G.row.length := by omega
        rw [List.drop_eq_getElem_cons hk1, List.drop_eq_getElem_cons hk2, placeL] at hc
        conv => whnf
        refine ADraw.of tok mixed false [0, 1, 2, 3, 4, 5, 6, 7, 8] [] (by kernel_rfl) (fun _ _ _ _ h => h) ?_
        conv => whnf
        refine ⟨⟨by omega, by omega⟩, ?_⟩
        conv => whnf
        rw [show (0 + (k : Int).toNat * 1) = k from by omega]
        refine aget_nums hk1 ?_
        conv => whnf
        refine ⟨⟨by omega, by omega⟩, ?_⟩
        conv => whnf
        rw [show (0 + (k : Int).toNat * 1) = k from by omega]
        refine aget_nums hk2 ?_
        conv => whnf
        by_cases he : F.row[k] = G.row[k]
        · rw [show (F.row[k] != G.row[k]) = false from by rw [he]; exact bne_self_eq_false _]
          rw [if_pos he] at hc
          conv => whnf
          rw [w64 (by omega) (by omega)]
          refine Gh.regs [7, 5, 6, 4] (Gh.of ⟨_, ?_, k + 1, by omega, by omega, rfl, hc, rfl, rfl⟩)
          omega
        · rw [show (F.row[k] != G.row[k]) = true from bne_iff_ne.2 he]
          rw [if_neg he] at hc
          conv => whnf
          refine GhR.sel [] rfl (GhR.of ⟨?_, rfl⟩)
          rw [hc]; rfl
      · rw [decide_eq_false h2]
        conv => whnf
        refine GhR.sel [] rfl (GhR.of ⟨?_, rfl⟩)
        rw [hc, placeL_end (.inr (List.drop_of_length_le (by omega)))]; rfl
    · rw [decide_eq_false h1]
      conv => whnf
      refine GhR.sel [] rfl (GhR.of ⟨?_, rfl⟩)
      rw [hc, placeL_end (.inl (List.drop_of_length_le (by omega)))]; rfl
end Go.AK
namespace Go.AK
open Go Go.RowKit Go.Proofs
set_option linter.unusedVariables false
set_option maxRecDepth 100000
/-- What the document says of frames that may not begin at once. -/
def WrongR (L : List Fr) (v : Int) : Prop :=
  (v = 14 ∧ ∃ F ∈ L, ¬F.may) ∨ (v = 23 ∧ (∀ F ∈ L, F.may) ∧ ∃ i k, ∃ h : i < L.length, ∃ h2 : k < i, placeL L[i].row L[k].row 0 < 0) ∨
  (v = 0 ∧ (∀ F ∈ L, F.may) ∧ ∀ i k (h : i < L.length) (h2 : k < i), 0 ≤ placeL L[i].row L[k].row 0)
set_option maxHeartbeats 2000000 in
theorem wrong_spec (L : List Fr) (hL : L.length < 1000000000) (hok : ∀ F ∈ L, F.ok) :
    ACall Try.prog 34 [.rs (frs L) 0 12 L.length] [] fun r H => ∃ v, WrongR L v ∧ r = .ret (.i .i64 v) ∧ H = [] := by
  refine ACall.enter tok false Try.func34 rfl rfl rfl (AW_sound (ip := false) tok _ _ _ _ ?_)
  conv => whnf
  refine ALoop.ind (ip := false) tok (fun m r H => ∃ (k : Nat), k ≤ L.length ∧ m = L.length - k ∧ (∀ j (h : j < L.length), j < k → L[j].may) ∧ H = [] ∧
    r = [(3, .i .i64 k), (0, .rs (frs L) 0 12 L.length)]) L.length ?_ ?_
  · exact Gh.regs [3, 0] (Gh.of ⟨0, by omega, by omega, fun j _ h => by omega, rfl, rfl⟩)
  · rintro m r H ⟨k, hk, rfl, hn, rfl, rfl⟩
    conv => whnf
    by_cases h : (k : Int) < L.length
    · rw [decide_eq_true h]
      conv => whnf
      refine ⟨⟨by omega, h⟩, ?_⟩
      conv => whnf
      have hkl : k < L.length := by omega
      refine aget_fr (k := k) (by omega) hkl ?_
      conv => whnf
      refine ACall.mono (check3_spec L[k] (hok _ (List.getElem_mem _))) ?_; rintro r H ⟨rfl, rfl⟩
      conv => whnf
      by_cases hm : L[k].may
      · rw [Fr.good hm]
        conv => whnf
        rw [w64 (by omega) (by omega)]
        refine Gh.regs [3, 0] (Gh.of ⟨_, ?_, k + 1, by omega, rfl, ?_, rfl, rfl⟩)
        · omega
        · intro j hj hj2
          by_cases e : j = k
          · subst e; exact hm
          · exact hn j hj (by omega)
      · rw [Fr.bad hm]
        conv => whnf
        exact ⟨_, .inl ⟨rfl, _, List.getElem_mem hkl, hm⟩, rfl, rfl⟩
    · rw [decide_eq_false h]
      conv => whnf
      have : k = L.length := by omega
      subst this
      have hall : ∀ F ∈ L, F.may := fun F hF => by
        obtain ⟨j, hj, rfl⟩ := List.mem_iff_getElem.1 hF
        exact hn j hj hj
      refine ALoop.ind (ip := false) tok (fun m r H => ∃ (i : Nat), i ≤ L.length ∧ m = L.length - i ∧ (∀ a b (h : a < L.length) (h2 : b < a), a < i → 0 ≤ placeL L[a].row L[b].row 0) ∧ H = [] ∧
        r = [(4, .i .i64 i), (0, .rs (frs L) 0 12 L.length)]) L.length ?_ ?_
      · exact Gh.regs [4, 0] (Gh.of ⟨0, by omega, by omega, fun a b _ _ h => by omega, rfl, rfl⟩)
      · rintro m r H ⟨i, hi, rfl, hp, rfl, rfl⟩
        conv => whnf
        by_cases h : (i : Int) < L.length
        · rw [decide_eq_true h]
          conv => whnf
          have hil : i < L.length := by omega
          refine ALoop.ind (ip := false) tok (fun m r H => ∃ (j : Nat), j ≤ i ∧ m = i - j ∧ (∀ b (h2 : b < i), b < j → 0 ≤ placeL L[i].row L[b].row 0) ∧ H = [] ∧
            r = [(5, .i .i64 j), (4, .i .i64 i), (0, .rs (frs L) 0 12 L.length)]) i ?_ ?_
          · exact Gh.regs [5, 4, 0] (Gh.of ⟨0, by omega, by omega, fun b _ h => by omega, rfl, rfl⟩)
          · rintro m r H ⟨j, hj, rfl, hq, rfl, rfl⟩
            conv => whnf
            by_cases h3 : (j : Int) < i
            · rw [decide_eq_true h3]
              conv => whnf
              have hjl : j < L.length := by omega
              refine ADraw.of tok mixed false [0, 1, 2, 3, 4, 5, 6, 7] [8, 9] (by kernel_rfl) (fun _ _ _ _ h => h) ?_
              conv => whnf
              refine ⟨⟨by omega, by omega⟩, ?_⟩
              conv => whnf
              refine aget_fr (k := i) (by omega) hil ?_
              conv => whnf
              refine ⟨⟨by omega, by omega⟩, ?_⟩
              conv => whnf
              refine aget_fr (k := j) (by omega) hjl ?_
              conv => whnf
              refine ACall.mono (place_spec L[i] L[j] (hall _ (List.getElem_mem _)) (hall _ (List.getElem_mem _))) ?_; rintro r H ⟨rfl, rfl⟩
              conv => whnf
              by_cases h4 : placeL L[i].row L[j].row 0 < 0
              · rw [decide_eq_true h4]
                conv => whnf
                exact ⟨_, .inr (.inl ⟨rfl, hall, i, j, hil, by omega, h4⟩), rfl, rfl⟩
              · rw [decide_eq_false h4]
                conv => whnf
                rw [w64 (by omega) (by omega)]
                refine Gh.regs [5, 4, 0] (Gh.of ⟨_, ?_, j + 1, by omega, rfl, ?_, rfl, rfl⟩)
                · omega
                · intro b hb hb2
                  by_cases e : b = j
                  · subst e; omega
                  · exact hq b hb (by omega)
            · rw [decide_eq_false h3]
              conv => whnf
              rw [w64 (by omega) (by omega)]
              refine Gh.regs [4, 0] (Gh.of ⟨L.length - (i + 1), by omega, i + 1, by omega, rfl, ?_, rfl, rfl⟩)
              intro a b ha hb ha2
              by_cases e : a = i
              · subst e; exact hq b hb (by omega)
              · exact hp a b ha hb (by omega)
        · rw [decide_eq_false h]
          conv => whnf
          have : i = L.length := by omega
          subst this
          exact ⟨_, .inr (.inr ⟨rfl, hall, fun a b ha hb => hp a b ha hb ha⟩), rfl, rfl⟩
end Go.AK
namespace Go.AK
open Go Go.RowKit Go.Proofs
set_option linter.unusedVariables false
set_option maxRecDepth 100000
theorem placeL_ge : ∀ (L M : List Int) (k : Int), placeL L M k = -1 ∨ k ≤ placeL L M k
  | [], M, k => .inl rfl
  | a :: L, [], k => .inl rfl
  | a :: L, b :: M, k => by
    unfold placeL
    split
    · rcases placeL_ge L M (k + 1) with h | h
      · exact .inl h
      · exact .inr (by omega)
    · exact .inr (Int.le_refl _)
theorem placeL_eq : ∀ (L M : List Int) (k : Int), 0 ≤ k → L.length = M.length → placeL L M k < 0 → L = M
  | [], [], k, _, _, _ => rfl
  | a :: L, b :: M, k, hk, hl, h => by
    unfold placeL at h
    split at h
    · rename_i e
      rw [e, placeL_eq L M (k + 1) (by omega) (by simpa using hl) h]
    · omega
theorem placeL_self : ∀ (L : List Int) (k : Int), placeL L L k = -1
  | [], k => rfl
  | a :: L, k => by unfold placeL; rw [if_pos rfl]; exact placeL_self L _
theorem placeL_at : ∀ (i : Nat) (L M : List Int) (k : Int), 0 ≤ k → i < L.length → i < M.length → L.getD i 0 ≠ M.getD i 0 → 0 ≤ placeL L M k
  | i, [], M, k, _, h, _, _ => by simp at h
  | i, a :: L, [], k, _, _, h, _ => by simp at h
  | 0, a :: L, b :: M, k, hk, _, _, h => by unfold placeL; rw [if_neg (by simpa using h)]; exact hk
  | i + 1, a :: L, b :: M, k, hk, h1, h2, h => by
    unfold placeL
    split
    · exact placeL_at i L M (k + 1) (by omega) (by simpa using h1) (by simpa using h2) (by simpa using h)
    · exact hk
theorem loses_place : ∀ (L M : List Int) (k : Int), 0 ≤ k → isLv L → losesL L M k = if placeL L M k < 0 then -1 else if L.getD (placeL L M k - k).toNat 0 = 0 then -1 else placeL L M k
  | [], M, k, hk, _ => rfl
  | a :: L, [], k, hk, _ => rfl
  | a :: L, b :: M, k, hk, hl => by
    have h1 := isLv_cons.1 hl
    unfold losesL placeL
    by_cases e : a = b
    · rw [if_pos e, if_pos e, loses_place L M (k + 1) (by omega) h1.2]
      rcases placeL_ge L M (k + 1) with h | h
      · rw [h]; rfl
      · have h2 : ¬ placeL L M (k + 1) < 0 := by omega
        rw [if_neg h2, if_neg h2]
        obtain ⟨n, hn⟩ : ∃ n : Nat, placeL L M (k + 1) - (k + 1) = n := ⟨(placeL L M (k + 1) - (k + 1)).toNat, by omega⟩
        rw [hn, show placeL L M (k + 1) - k = ((n + 1 : Nat) : Int) from by omega, Int.toNat_natCast, Int.toNat_natCast, List.getD_cons_succ]
    · rw [if_neg e, if_neg e, if_neg (by omega : ¬ k < 0), Int.sub_self]
      show _ = if a = 0 then -1 else k
      rcases h1.1 with rfl | rfl
      · rfl
      · rfl
theorem row_lv (F : Fr) : isLv F.row := by
  have hr : F.rt = 0 ∨ F.rt = 1 := by unfold Fr.rt; split <;> simp
  unfold Fr.row
  split
  · exact isLv_append.2 ⟨isLv_append.2 ⟨isLv_append.2 ⟨ofI_lv _ _, isLv_cons.2 ⟨.inr rfl, isLv_cons.2 ⟨.inr rfl, isLv_nil⟩⟩⟩, ofI_lv _ _⟩, isLv_cons.2 ⟨hr, isLv_nil⟩⟩
  · exact isLv_append.2 ⟨ofI_lv _ _, isLv_cons.2 ⟨hr, isLv_cons.2 ⟨.inl rfl, isLv_nil⟩⟩⟩
theorem row_len (F : Fr) : F.row.length = if F.ext = true then 32 else 13 := by
  unfold Fr.row
  split <;> simp [ofI_length]
theorem row_twelve (F : Fr) : F.row.getD 12 0 = if F.ext = true then 1 else 0 := by
  unfold Fr.row
  split
  · rw [List.getD_eq_getElem?_getD, List.append_assoc, List.append_assoc, List.getElem?_append_right (by rw [ofI_length]; omega), ofI_length]; rfl
  · rw [List.getD_eq_getElem?_getD, List.getElem?_append_right (by rw [ofI_length]; omega), ofI_length]; rfl
/-- No frame's levels begin another one's. -/
theorem place_rows {F G : Fr} : placeL F.row G.row 0 < 0 ↔ F.row = G.row := by
  constructor
  · intro h
    by_cases e : F.ext = G.ext
    · exact placeL_eq _ _ 0 (by omega) (by rw [row_len, row_len, e]) h
    · exfalso
      have := placeL_at 12 F.row G.row 0 (by omega) (by rw [row_len]; split <;> omega) (by rw [row_len]; split <;> omega) (by
        rw [row_twelve, row_twelve]
        cases hf : F.ext <;> cases hg : G.ext <;> first | (rw [hf, hg] at e; exact absurd rfl e) | simp)
      omega
  · intro h; rw [h, placeL_self]; omega
theorem cmpI_zero {a b : Int} : cmpI a b = 0 ↔ a = b := by
  unfold cmpI
  split
  · omega
  · split <;> omega
theorem cmpL_zero : ∀ {L M : List Int}, cmpL L M = 0 ↔ L = M
  | [], [] => by simp [cmpL]
  | [], _ :: _ => by simp [cmpL]
  | _ :: _, [] => by simp [cmpL]
  | a :: L, b :: M => by
    unfold cmpL
    split
    · rename_i h
      rw [cmpL_zero, cmpI_zero.1 h]; simp
    · rename_i h
      constructor
      · intro h2; exact absurd h2 h
      · intro h2; cases h2; exact absurd (cmpI_zero.2 rfl) h
theorem rival_rows {F G : Fr} (hF : F.may) (hG : G.may) : F.rival G = true ↔ F.row = G.row := by
  unfold Fr.rival frcmp Fr.rw
  rw [if_pos hF, if_pos hG, decide_eq_true ⟨hF, hG⟩, Bool.true_and, decide_eq_true_eq, cmpL_zero]
/-- Both say the same of frames. -/
theorem wrong_chk {L : List Fr} {v u : Int} (h : ChkR L v) (k : WrongR L u) : v = u := by
  rcases h with ⟨rfl, F, hF, hn⟩ | ⟨rfl, hm, i, hi, hr⟩ | ⟨rfl, hm, hr⟩ <;> rcases k with ⟨rfl, G, hG, kn⟩ | ⟨rfl, km, a, b, ha, hb, kr⟩ | ⟨rfl, km, kr⟩
  · rfl
  · exact absurd (km F hF) hn
  · exact absurd (km F hF) hn
  · exact absurd (hm G hG) kn
  · rfl
  · exfalso
    obtain ⟨G, hG, h2⟩ := List.any_eq_true.1 hr
    obtain ⟨b, hb, rfl⟩ := List.mem_iff_getElem.1 hG
    rw [List.length_take] at hb
    rw [List.getElem_take] at h2
    have h3 := (rival_rows (hm _ (List.getElem_mem _)) (hm _ (List.getElem_mem _))).1 h2
    have h4 := kr i b hi (by omega)
    rw [h3, placeL_self] at h4; omega
  · exact absurd (hm G hG) kn
  · exfalso
    have h2 := hr a ha
    have h3 : (L.take a).any (fun G => L[a].rival G) = true := List.any_eq_true.2 ⟨L[b], by
      rw [show L[b] = (L.take a)[b]'(by rw [List.length_take]; omega) from (List.getElem_take ..).symm]
      exact List.getElem_mem _, (rival_rows (hm _ (List.getElem_mem _)) (hm _ (List.getElem_mem _))).2 (place_rows.1 kr)⟩
    rw [h2] at h3; cases h3
  · rfl
end Go.AK
namespace Go.AK
open Go Go.RowKit Go.Proofs
set_option linter.unusedVariables false
set_option maxRecDepth 100000
def aheadL : List Int → List Int → Bool
  | a :: L, b :: M => if a = b then aheadL L M else decide (a < b)
  | _, _ => false
theorem aheadL_cmp : ∀ {L M : List Int}, (∀ b T, M ≠ L ++ b :: T) → aheadL L M = decide (cmpL L M < 0)
  | [], [], _ => rfl
  | [], b :: M, h => absurd rfl (h b M)
  | a :: L, [], _ => rfl
  | a :: L, b :: M, h => by
    unfold aheadL
    by_cases e : a = b
    · subst e
      rw [if_pos rfl, aheadL_cmp (fun b T e => h b T (by rw [e]; rfl))]
      congr 1
      rw [cmpL_cons]
      simp
    · rw [if_neg e]
      congr 1
      rw [cmpL_cons]
      simp [e]
theorem row_apart (F G : Fr) (b : Int) (T : List Int) : G.row ≠ F.row ++ b :: T := fun e => by
  have h1 := congrArg List.length e
  rw [List.length_append, List.length_cons, row_len, row_len] at h1
  cases hF : F.ext with
  | true => rw [hF] at h1; simp at h1; split at h1 <;> omega
  | false =>
    have h2 := row_twelve F
    have h3 := row_twelve G
    cases hG : G.ext with
    | false => rw [hF, hG] at h1; simp at h1
    | true =>
      rw [hF] at h2
      rw [hG, e, List.getD_eq_getElem?_getD, List.getElem?_append_left (by rw [row_len, hF]; simp), ← List.getD_eq_getElem?_getD, h2] at h3
      simp at h3
theorem ahead_rows {F G : Fr} (hF : F.may) (hG : G.may) : aheadL F.row G.row = F.less G := by
  rw [aheadL_cmp (row_apart F G), less_row hF hG]
theorem aheadL_end {L M : List Int} (h : L = [] ∨ M = []) : aheadL L M = false := by
  rcases h with rfl | rfl
  · rfl
  · cases L <;> rfl
set_option maxHeartbeats 400000 in
theorem ahead_spec (F G : Fr) (hF : F.may) (hG : G.may) : ACall Try.prog 49 [F.av, G.av] [] fun r H => r = .ret (.b (F.less G)) ∧ H = [] := by
  rw [← ahead_rows hF hG]
  refine ACall.gh ?_
  refine ACall.enter tok false Try.func49 rfl rfl rfl (AW_sound (ip := false) tok _ _ _ _ ?_)
  conv => whnf
  refine ACall.frameH [] [] rfl (args' := [F.av]) (Hc := []) rfl rfl (arb3_spec F hF) ?_
  rintro r H ⟨c, hc, rfl, rfl⟩
  refine ⟨.inl rfl, [.c F.cells, .c G.cells, .c (ints F.row)], by show [_, _, Blk.c (subs _ _)] = _; (simp only [subs_nums]; try rfl), ?_⟩
  conv => whnf
  refine ACall.frameH [] [] rfl (args' := [G.av]) (Hc := []) rfl rfl (arb3_spec G hG) ?_
  rintro r H ⟨d, hd, rfl, rfl⟩
  refine ⟨.inl rfl, [.c F.cells, .c G.cells, .c (ints F.row), .c (ints G.row)], by show [_, _, _, Blk.c (subs _ _)] = _; (simp only [subs_nums]; try rfl), ?_⟩
  conv => whnf
  have hfl := F.row_le
  have hgl := G.row_le
  refine ALoop.ind (ip := false) tok (fun m r H => ∃ (k : Nat), k ≤ F.row.length ∧ k ≤ G.row.length ∧ m = F.row.length - k ∧ aheadL F.row G.row = aheadL (F.row.drop k) (G.row.drop k) ∧ H = [.c (ints F.row), .c (ints G.row)] ∧
    r = [(7, .i .i64 k), (5, .sl (some (0, 0)) 1 F.row.length c), (6, .sl (some (1, 0)) 1 G.row.length d), (4, .b false)]) F.row.length ?_ ?_
  · refine Gh.regs [7, 5, 6, 4] (Gh.sel [2, 3] rfl (Gh.of ⟨0, by omega, by omega, by omega, rfl, ?_, ?_⟩))
    · show [Blk.c (subs _ (ints F.row)), Blk.c (subs _ (ints G.row))] = _
      simp only [subs_nums]
    · refine keep_eq (show keepR _ _ = [_, _, _, _] from rfl) ?_
      rfl
  · rintro m r H ⟨k, hk, hk2, rfl, hc, rfl, rfl⟩
    by_cases h1 : (k : Int) < F.row.length
    · by_cases h2 : (k : Int) < G.row.length
      · have hk1 : k < F.row.length := by omega
        have hk2 : k < G.row.length := by omega
        rw [List.drop_eq_getElem_cons hk1, List.drop_eq_getElem_cons hk2, aheadL] at hc
        have g1 := List.getElem?_eq_getElem hk1
        have g2 := List.getElem?_eq_getElem hk2
        conv => whnf
        repeat (first | (refine acond_t (decide_eq_true h1) ?_; conv => whnf) | (refine acond_t (decide_eq_true h2) ?_; conv => whnf))
        refine ADraw.of tok mixed false [0, 1, 2, 3, 4, 5, 6, 7, 8] [] (by kernel_rfl) (fun _ _ _ _ h => h) ?_
        conv => whnf
        refine ⟨⟨by omega, by omega⟩, ?_⟩
        conv => whnf
        refine aget_num (i := k) (by omega) g1 ?_
        conv => whnf
        refine ⟨⟨by omega, by omega⟩, ?_⟩
        conv => whnf
        refine aget_num (i := k) (by omega) g2 ?_
        conv => whnf
        by_cases he : F.row[k] = G.row[k]
        · rw [if_pos he] at hc
          refine acond_f (bne_eq_false_iff_eq.2 he) ?_
          conv => whnf
          refine Gh.regs [7, 5, 6, 4] (Gh.of ⟨F.row.length - (k + 1), by omega, k + 1, by omega, by omega, rfl, hc, rfl, ?_⟩)
          rw [w64 (by omega) (by omega)]; rfl
        · rw [if_neg he] at hc
          refine acond_t (bne_iff_ne.2 he) ?_
          conv => whnf
          refine ADraw.of tok mixed false [0, 1, 2, 3, 4, 5, 6, 7, 8, 9] [] (by kernel_rfl) (fun _ _ _ _ h => h) ?_
          conv => whnf
          refine ⟨⟨by omega, by omega⟩, ?_⟩
          conv => whnf
          refine aget_num (i := k) (by omega) g1 ?_
          conv => whnf
          refine ⟨⟨by omega, by omega⟩, ?_⟩
          conv => whnf
          refine aget_num (i := k) (by omega) g2 ?_
          conv => whnf
          refine GhR.sel [] rfl (GhR.of ⟨?_, rfl⟩)
          rw [hc]; rfl
      · rw [aheadL_end (.inr (List.drop_of_length_le (by omega)))] at hc
        conv => whnf
        repeat (first | (refine acond_t (decide_eq_true h1) ?_; conv => whnf) | (refine acond_f (decide_eq_false h2) ?_; conv => whnf))
        refine GhR.sel [] rfl (GhR.of ⟨?_, rfl⟩)
        rw [hc]; rfl
    · rw [aheadL_end (.inl (List.drop_of_length_le (by omega)))] at hc
      conv => whnf
      repeat (refine acond_f (decide_eq_false h1) ?_; conv => whnf)
      refine GhR.sel [] rfl (GhR.of ⟨?_, rfl⟩)
      rw [hc]; rfl
theorem aget_frX {L : List Fr} {X : List AV} {k o : Nat} (ho : o = k * 12) (hk : k < L.length) {K : AV → AV → AV → AV → AV → AV → AV → AV → AV → AV → AV → AV → Prop} (h : K (.i .i64 L[k].id) (.b L[k].ext) (.b L[k].rtr) (.i .i64 L[k].len) (.i .u8 L[k].b0) (.i .u8 L[k].b1) (.i .u8 L[k].b2) (.i .u8 L[k].b3) (.i .u8 L[k].b4) (.i .u8 L[k].b5) (.i .u8 L[k].b6) (.i .u8 L[k].b7)) :
    aget (frs L ++ X) o fun v0 => aget (frs L ++ X) (o + 1) fun v1 => aget (frs L ++ X) ((o + 1) + 1) fun v2 => aget (frs L ++ X) (((o + 1) + 1) + 1) fun v3 => aget (frs L ++ X) ((((o + 1) + 1) + 1) + 1) fun v4 => aget (frs L ++ X) (((((o + 1) + 1) + 1) + 1) + 1) fun v5 => aget (frs L ++ X) ((((((o + 1) + 1) + 1) + 1) + 1) + 1) fun v6 => aget (frs L ++ X) (((((((o + 1) + 1) + 1) + 1) + 1) + 1) + 1) fun v7 => aget (frs L ++ X) ((((((((o + 1) + 1) + 1) + 1) + 1) + 1) + 1) + 1) fun v8 => aget (frs L ++ X) (((((((((o + 1) + 1) + 1) + 1) + 1) + 1) + 1) + 1) + 1) fun v9 => aget (frs L ++ X) ((((((((((o + 1) + 1) + 1) + 1) + 1) + 1) + 1) + 1) + 1) + 1) fun v10 => aget (frs L ++ X) (((((((((((o + 1) + 1) + 1) + 1) + 1) + 1) + 1) + 1) + 1) + 1) + 1) fun v11 => K v0 v1 v2 v3 v4 v5 v6 v7 v8 v9 v10 v11 := by
  subst ho
  have g : ∀ j (v : AV), j < 12 → L[k].cells[j]? = some v → (frs L ++ X)[k * 12 + j]? = some v := fun j v hj h => by rw [List.getElem?_append_left (by rw [frs_length]; omega), frs_get hk hj, h]
  unfold aget
  rw [show (frs L ++ X)[k * 12]? = some (.i .i64 L[k].id) from g 0 _ (by omega) rfl]
  dsimp only
  rw [show (frs L ++ X)[(k * 12 + 1)]? = some (.b L[k].ext) from g 1 _ (by omega) rfl]
  dsimp only
  rw [show (frs L ++ X)[((k * 12 + 1) + 1)]? = some (.b L[k].rtr) from g 2 _ (by omega) rfl]
  dsimp only
  rw [show (frs L ++ X)[(((k * 12 + 1) + 1) + 1)]? = some (.i .i64 L[k].len) from g 3 _ (by omega) rfl]
  dsimp only
  rw [show (frs L ++ X)[((((k * 12 + 1) + 1) + 1) + 1)]? = some (.i .u8 L[k].b0) from g 4 _ (by omega) rfl]
  dsimp only
  rw [show (frs L ++ X)[(((((k * 12 + 1) + 1) + 1) + 1) + 1)]? = some (.i .u8 L[k].b1) from g 5 _ (by omega) rfl]
  dsimp only
  rw [show (frs L ++ X)[((((((k * 12 + 1) + 1) + 1) + 1) + 1) + 1)]? = some (.i .u8 L[k].b2) from g 6 _ (by omega) rfl]
  dsimp only
  rw [show (frs L ++ X)[(((((((k * 12 + 1) + 1) + 1) + 1) + 1) + 1) + 1)]? = some (.i .u8 L[k].b3) from g 7 _ (by omega) rfl]
  dsimp only
  rw [show (frs L ++ X)[((((((((k * 12 + 1) + 1) + 1) + 1) + 1) + 1) + 1) + 1)]? = some (.i .u8 L[k].b4) from g 8 _ (by omega) rfl]
  dsimp only
  rw [show (frs L ++ X)[(((((((((k * 12 + 1) + 1) + 1) + 1) + 1) + 1) + 1) + 1) + 1)]? = some (.i .u8 L[k].b5) from g 9 _ (by omega) rfl]
  dsimp only
  rw [show (frs L ++ X)[((((((((((k * 12 + 1) + 1) + 1) + 1) + 1) + 1) + 1) + 1) + 1) + 1)]? = some (.i .u8 L[k].b6) from g 10 _ (by omega) rfl]
  dsimp only
  rw [show (frs L ++ X)[(((((((((((k * 12 + 1) + 1) + 1) + 1) + 1) + 1) + 1) + 1) + 1) + 1) + 1)]? = some (.i .u8 L[k].b7) from g 11 _ (by omega) rfl]
  exact h
/-- A row without its place k, as far as it was gone through. -/
def woutL (l : List Fr) (k i : Nat) : List Fr := (l.take i).eraseIdx k
theorem wout_in {l : List Fr} {k i : Nat} (hi : i < l.length) (e : i ≠ k) : woutL l k (i + 1) = woutL l k i ++ [l[i]] := by
  unfold woutL
  rw [List.take_add_one, List.getElem?_eq_getElem hi]
  by_cases h : k < i
  · rw [List.eraseIdx_append_of_lt_length (by rw [List.length_take]; omega)]; rfl
  · rw [List.eraseIdx_of_length_le (by rw [List.length_append, List.length_take]; simp; omega), List.eraseIdx_of_length_le (by rw [List.length_take]; omega)]; rfl
theorem wout_out {l : List Fr} {k : Nat} (hi : k < l.length) : woutL l k (k + 1) = woutL l k k := by
  unfold woutL
  rw [List.take_add_one, List.getElem?_eq_getElem hi, List.eraseIdx_append_of_length_le (by rw [List.length_take]; omega), List.length_take, show k - min k l.length = 0 from by omega]
  rw [List.eraseIdx_of_length_le (l := l.take k) (by rw [List.length_take]; omega)]
  simp
theorem wout_le (l : List Fr) (k i : Nat) : (woutL l k i).length ≤ i := by
  unfold woutL
  exact Nat.le_trans (List.length_eraseIdx_le _ _) (by rw [List.length_take]; omega)
set_option maxHeartbeats 400000 in
theorem without_spec (l : List Fr) (k : Nat) (hl : l.length < 1000000) : ACall Try.prog 47 [.rs (frs l) 0 12 l.length, .i .i64 k] [] fun r H => ∃ c, (l.eraseIdx k).length ≤ c ∧ r = .ret (.sl (some (0, 0)) 12 (l.eraseIdx k).length c) ∧ H = [.c (frs (l.eraseIdx k))] := by
  refine ACall.gh ?_
  refine ACall.enter tok false Try.func47 rfl rfl rfl (AW_sound (ip := false) tok _ _ _ _ ?_)
  conv => whnf
  refine ALoop.ind (ip := false) tok (fun m r H => ∃ (i c : Nat), i ≤ l.length ∧ m = l.length - i ∧ (woutL l k i).length ≤ c ∧ H = [.c (frs (woutL l k i))] ∧
    r = [(6, .i .i64 i), (5, .sl (some (0, 0)) 12 (woutL l k i).length c), (1, .i .i64 k), (0, .rs (frs l) 0 12 l.length)]) l.length ?_ ?_
  · have h0 : woutL l k 0 = [] := by unfold woutL; simp
    refine Gh.regs [6, 5, 1, 0] (Gh.of ⟨0, 0, by omega, by omega, by rw [h0]; simp, by rw [h0]; rfl, ?_⟩)
    rw [h0]; rfl
  · rintro m r H ⟨i, c, hi, rfl, hc, rfl, rfl⟩
    have hle := wout_le l k i
    have hfw := frs_length (woutL l k i)
    by_cases h1 : (i : Int) < l.length
    · have hil : i < l.length := by omega
      conv => whnf
      refine acond_t (decide_eq_true h1) ?_
      conv => whnf
      by_cases e : (i : Int) = k
      · have hik : i = k := by omega
        subst hik
        refine acond_f (bne_eq_false_iff_eq.2 rfl) ?_
        conv => whnf
        refine Gh.regs [6, 5, 1, 0] (Gh.of ⟨l.length - (i + 1), by omega, i + 1, c, by omega, rfl, by rw [wout_out hil]; exact hc, by rw [wout_out hil], ?_⟩)
        rw [wout_out hil, w64 (by omega) (by omega)]; rfl
      · have hst := wout_in (k := k) hil (by omega)
        refine acond_t (bne_iff_ne.2 e) ?_
        conv => whnf
        refine ⟨⟨by omega, h1⟩, ?_⟩
        conv => whnf
        refine aget_fr (k := i) (by omega) hil ?_
        conv => whnf
        refine ⟨by dsimp only; omega, ?_⟩
        conv => whnf
        refine ⟨by show 12 ≤ (12 : Nat); omega, ?_⟩
        conv => whnf
        refine ⟨rfl, by (try dsimp only); omega, by omega, fun g2 hg2 => ?_⟩
        conv => whnf
        refine Gh.regs [6, 5, 1, 0] (Gh.sel [2] rfl (Gh.of ⟨l.length - (i + 1), by omega, i + 1, g2, by omega, rfl, by rw [hst, List.length_append]; exact hg2, ?_, ?_⟩))
        · rw [hst]
          have hAq : List.take ((woutL l k i).length * 12) (List.drop 0 (frs (woutL l k i))) ++ l[i].cells = frs (woutL l k i ++ [l[i]]) := by
            rw [List.drop_zero, List.take_of_length_le (by omega), ← frs_one, ← frs_append]
          show [Blk.c (subs _ (List.take ((woutL l k i).length * 12) (List.drop 0 (frs (woutL l k i))) ++ l[i].cells))] = _
          rw [hAq, subs_frs]
        · rw [hst]
          refine keep_eq (show keepR _ _ = [_, _, _, _] from rfl) ?_
          simp only [subG, sub, subs_frs, List.length_append, List.length_singleton]
          rw [w64 (by omega) (by omega)]; rfl
    · have hil : i = l.length := by omega
      subst hil
      have hw : woutL l k l.length = l.eraseIdx k := by unfold woutL; rw [List.take_length]
      rw [hw] at hc
      rw [hw]
      conv => whnf
      refine acond_f (decide_eq_false h1) ?_
      conv => whnf
      exact GhR.of ⟨c, hc, rfl, rfl⟩
end Go.AK
namespace Go.AK
open Go Go.RowKit Go.Proofs
set_option linter.unusedVariables false
set_option maxRecDepth 100000
theorem erase_idx {R : List Fr} {k : Nat} {F : Fr} (hk : k < R.length) (e : R[k] = F) (hn : ∀ j (h : j < R.length), j < k → R[j] ≠ F) : R.eraseIdx k = R.erase F := by
  rw [← drop_erase]
  unfold dropL fndF
  congr 1
  refine ((List.findIdx_eq hk).2 ⟨by simp [e], fun j hj => ?_⟩).symm
  have := hn j (by omega) hj
  simp
  exact fun h => this h.symm
set_option maxHeartbeats 400000 in
theorem rfdrop_spec (R : List Fr) (F : Fr) (most : Int) (c : Nat) (Y : List AV) (hc : R.length ≤ c) (hY : Pl Y) (hYl : Y.length = (c - R.length) * 12) (hl : R.length < 1000000) :
    ACall Try.prog 22 [.p (some (0, 0)), F.av] [.c [.sl (some (1, 0)) 12 R.length c, .i .i64 most], .c (frs R ++ Y)] fun r H => (F ∈ R ∧ r = .ret (.i .i64 0) ∧ QMv (R.erase F) most H) ∨ (¬ F ∈ R ∧ r = .ret (.i .i64 16) ∧ QIn R most H) := by
  refine ACall.gh ?_
  refine ACall.enter tok false Try.func22 rfl rfl rfl (AW_sound (ip := false) tok _ _ _ _ ?_)
  have hp : ∀ φ, subs φ (frs R ++ Y) = frs R ++ Y := (Pl.frs R).app hY
  conv => whnf
  refine ALoop.ind (ip := false) tok (fun m r H => ∃ (i : Nat), i ≤ R.length ∧ m = R.length - i ∧ (∀ j (h : j < R.length), j < i → R[j] ≠ F) ∧ H = [.c [.sl (some (1, 0)) 12 R.length c, .i .i64 most], .c (frs R ++ Y), .c F.cells] ∧
    r = [(5, .i .i64 i), (3, .p (some (2, 0))), (0, .p (some (0, 0)))]) R.length ?_ ?_
  · exact Gh.regs [5, 3, 0] (Gh.of ⟨0, by omega, by omega, fun j _ h => by omega, rfl, rfl⟩)
  · rintro m r H ⟨i, hi, rfl, hn, rfl, rfl⟩
    by_cases h1 : (i : Int) < R.length
    · have hil : i < R.length := by omega
      conv => whnf
      refine acond_t (decide_eq_true h1) ?_
      conv => whnf
      refine ADraw.of tok mixed false [0, 1, 2, 3, 4, 5, 6, 7, 8] [] (by kernel_rfl) (fun _ _ _ _ h => h) ?_
      conv => whnf
      refine ⟨⟨by omega, h1⟩, ?_⟩
      conv => whnf
      refine aget_frX (k := i) (by omega) hil ?_
      conv => whnf
      refine ⟨flatFrame, ?_⟩
      conv => whnf
      by_cases e : R[i] = F
      · have her := erase_idx hil e hn
        have hm : F ∈ R := by rw [← e]; exact List.getElem_mem _
        refine acond_t (by rw [fr_eq, decide_eq_true e]) ?_
        conv => whnf
        refine ACall.frameH [] [1] rfl (args' := [.rs (frs R ++ Y) 0 12 R.length, .i .i64 i]) (Hc := []) (by show [AV.rs (subs _ (frs R ++ Y)) 0 12 R.length, _] = _; rw [hp]; rfl) rfl (ACall.args (without_spec R i hl) (VLe.rsPre (VLe.cons VLe.nil))) ?_
        rintro r H ⟨d, hd, rfl, rfl⟩
        refine ⟨.inr ⟨rfl, by simp [nroH, nroB, nros_frs]⟩, [.c [.sl (some (1, 0)) 12 R.length c, .i .i64 most], .c (frs R ++ Y), .c F.cells, .c (frs (R.eraseIdx i))], by show [_, _, _, Blk.c (subs _ _)] = _; (simp only [subs_frs]; try rfl), ?_⟩
        rw [her] at hd
        conv => whnf
        refine ⟨(by show 0 + 0 + 1 ≤ 2; omega), ?_⟩
        conv => whnf
        have hfl := frs_length (R.erase F)
        rw [her]
        refine GhR.sel [0, 1, 3] rfl (GhR.kill 1 (GhR.pad 0 0 2 rfl rfl rfl (GhR.of (.inl ⟨hm, rfl, d, List.replicate (d * 12 - (R.erase F).length * 12) .un, hd, Pl.un _, by rw [List.length_replicate]; omega, ?_⟩))))
        show [_, Blk.dead, Blk.c (subs _ (frs (R.erase F)) ++ List.replicate (d * 12 - (subs _ (frs (R.erase F))).length) .un)] = _
        rw [subs_frs, hfl]
        rfl
      · refine acond_f (by rw [fr_eq, decide_eq_false e]) ?_
        conv => whnf
        refine Gh.regs [5, 3, 0] (Gh.of ⟨R.length - (i + 1), by omega, i + 1, by omega, rfl, fun j h h2 => ?_, rfl, ?_⟩)
        · by_cases e2 : j = i
          · subst e2; exact e
          · exact hn j h (by omega)
        · rw [w64 (by omega) (by omega)]; rfl
    · have hil : i = R.length := by omega
      subst hil
      have hm : ¬ F ∈ R := fun h => by
        obtain ⟨j, hj, e⟩ := List.mem_iff_getElem.1 h
        exact hn j hj hj e
      conv => whnf
      refine acond_f (decide_eq_false h1) ?_
      conv => whnf
      refine GhR.sel [0, 1] rfl (GhR.of (.inr ⟨hm, rfl, c, Y, hc, hY, hYl, ?_⟩))
      show [_, Blk.c (subs _ (frs R ++ Y))] = _
      rw [hp]
      rfl
theorem rfdrop_nil (F : Fr) (most : Int) : ACall Try.prog 22 [.p (some (0, 0)), F.av] [.c [.sl none 0 0 0, .i .i64 most]] fun r H => r = .ret (.i .i64 16) ∧ H = [.c [.sl none 0 0 0, .i .i64 most]] := by
  refine ACall.gh ?_
  refine ACall.enter tok false Try.func22 rfl rfl rfl (AW_sound (ip := false) tok _ _ _ _ ?_)
  conv => whnf
  refine ALoop.ind (ip := false) tok (fun m r H => H = [.c [.sl none 0 0 0, .i .i64 most], .c F.cells] ∧ r = [(5, .i .i64 0), (3, .p (some (1, 0))), (0, .p (some (0, 0)))]) 0 ?_ ?_
  · exact Gh.regs [5, 3, 0] (Gh.of ⟨rfl, rfl⟩)
  · rintro m r H ⟨rfl, rfl⟩
    conv => whnf
    exact GhR.sel [0] rfl (GhR.of ⟨rfl, rfl⟩)
set_option maxHeartbeats 400000 in
theorem rfput_spec (R : List Fr) (F : Fr) (hF : F.ok) (most : Int) (c : Nat) (Y : List AV) (hc : R.length ≤ c) (hY : Pl Y) (hYl : Y.length = (c - R.length) * 12) (hl : R.length < 1000000) :
    ACall Try.prog 23 [.p (some (0, 0)), F.av] [.c [.sl (some (1, 0)) 12 R.length c, .i .i64 most], .c (frs R ++ Y)] fun r H => r = .ret (.i .i64 (putE R F most)) ∧ ((putE R F most = 0 ∧ QMv (R ++ [F]) most H) ∨ (putE R F most ≠ 0 ∧ QIn R most H)) := by
  refine ACall.gh ?_
  refine ACall.enter tok false Try.func23 rfl rfl rfl (AW_sound (ip := false) tok _ _ _ _ ?_)
  have hp : ∀ φ, subs φ (frs R ++ Y) = frs R ++ Y := (Pl.frs R).app hY
  have hfl := frs_length R
  have hlX : (frs R ++ Y).length = R.length * 12 + Y.length := by rw [List.length_append, hfl]
  have hN : List.take (R.length * 12) (List.drop 0 (frs R ++ Y)) ++ F.cells = frs (R ++ [F]) := by
    rw [List.drop_zero, ← hfl, List.take_left, ← frs_one, ← frs_append]
  conv => whnf
  refine ACall.frameH [] [] rfl (args' := [F.av]) (Hc := []) rfl rfl (check3_spec F hF) ?_
  rintro r H ⟨rfl, rfl⟩
  by_cases hm : F.may
  · rw [Fr.good hm]
    refine ⟨.inl rfl, [.c [.sl (some (1, 0)) 12 R.length c, .i .i64 most], .c (frs R ++ Y), .c F.cells], rfl, ?_⟩
    conv => whnf
    refine ADraw.of tok mixed false [0, 1, 2, 3, 4, 5, 6, 7, 8, 9] [] (by kernel_rfl) (fun _ _ _ _ h => h) ?_
    conv => whnf
    by_cases hfull : (R.length : Int) ≥ most
    · have he : putE R F most = 15 := by unfold putE; rw [if_pos hm, if_pos hfull]
      refine acond_t (decide_eq_true hfull) ?_
      conv => whnf
      refine GhR.sel [0, 1] rfl (GhR.of ⟨by rw [he]; rfl, .inr ⟨by omega, c, Y, hc, hY, hYl, ?_⟩⟩)
      show [_, Blk.c (subs _ (frs R ++ Y))] = _
      rw [hp]
      rfl
    · have he : putE R F most = 0 := by unfold putE; rw [if_pos hm, if_neg hfull]
      refine acond_f (decide_eq_false hfull) ?_
      conv => whnf
      refine ADraw.gh (Gh.regs [0, 3, 4] (Gh.of ?_))
      refine ADraw.post (Q' := fun x r H => x = .normal ∧ ∃ d, R.length + 1 ≤ d ∧ H = [.c [.sl (some (4, 0)) 12 (R.length + 1) d, .i .i64 most], .dead, .c F.cells, .c F.cells, .c (frs (R ++ [F]))]) ?_ ?_ (fun x r H hn h => absurd h.1 hn)
      · refine ADraw.tree tok mixed false [] [0, 1, 2, 3] (.node (.cons 4 (.node (.cons 5 (.node (.cons 6 (.node (.cons 7 (.node (.cons 8 (.node (.cons 9 (.node (.cons 10 (.node .nil) .nil)) .nil)) .nil)) .nil)) .nil)) .nil)) (.cons 5 (.node (.cons 4 (.node (.cons 6 (.node (.cons 7 (.node (.cons 8 (.node (.cons 9 (.node (.cons 10 (.node .nil) .nil)) .nil)) .nil)) .nil)) .nil)) (.cons 6 (.node (.cons 4 (.node (.cons 7 (.node (.cons 8 (.node (.cons 9 (.node (.cons 10 (.node .nil) .nil)) .nil)) .nil)) .nil)) .nil)) .nil))) .nil))) (by kernel_rfl) (fun _ _ _ _ h => (by cases h.1)) ?_
        conv => whnf
        refine And.intro ?_ (And.intro ?_ trivial)
        · conv => whnf
          refine ⟨by dsimp only; omega, ?_⟩
          conv => whnf
          refine ⟨by show 12 ≤ (12 : Nat); omega, ?_⟩
          conv => whnf
          refine ⟨rfl, by (try dsimp only); omega, by omega, fun d hd => ?_⟩
          conv => whnf
          refine ⟨(by show 0 + 0 + 1 ≤ 2; omega), ?_⟩
          conv => whnf
          refine ⟨rfl, d, hd, ?_⟩
          show [_, _, _, _, Blk.c (List.take (R.length * 12) (List.drop 0 (frs R ++ Y)) ++ F.cells)] = _
          rw [hN]
          rfl
        · conv => whnf
          refine And.intro ?_ (And.intro ?_ trivial)
          · conv => whnf
            refine ⟨by dsimp only; omega, ?_⟩
            conv => whnf
            refine ⟨by show 12 ≤ (12 : Nat); omega, ?_⟩
            conv => whnf
            refine ⟨rfl, by (try dsimp only); omega, by omega, fun d hd => ?_⟩
            conv => whnf
            refine ⟨(by show 0 + 0 + 1 ≤ 2; omega), ?_⟩
            conv => whnf
            refine ⟨rfl, d, hd, ?_⟩
            show [_, _, _, _, Blk.c (List.take (R.length * 12) (List.drop 0 (frs R ++ Y)) ++ F.cells)] = _
            rw [hN]
            rfl
          · conv => whnf
            refine ⟨by dsimp only; omega, ?_⟩
            conv => whnf
            refine ⟨by show 12 ≤ (12 : Nat); omega, ?_⟩
            conv => whnf
            refine ⟨rfl, by (try dsimp only); omega, by omega, fun d hd => ?_⟩
            conv => whnf
            refine ⟨(by show 0 + 0 + 1 ≤ 2; omega), ?_⟩
            conv => whnf
            refine ⟨rfl, d, hd, ?_⟩
            show [_, _, _, _, Blk.c (List.take (R.length * 12) (List.drop 0 (frs R ++ Y)) ++ F.cells)] = _
            rw [hN]
            rfl
      · rintro r H ⟨_, d, k1, rfl⟩
        refine Gh.regs [] (Gh.of ?_)
        conv => whnf
        have hfl2 := frs_length (R ++ [F])
        have hl2 : (R ++ [F]).length = R.length + 1 := by simp
        refine GhR.sel [0, 1, 4] rfl (GhR.pad 0 0 2 rfl rfl rfl (GhR.of ⟨by rw [he]; rfl, .inl ⟨he, d, List.replicate (d * 12 - (R.length + 1) * 12) .un, by rw [hl2]; exact k1, Pl.un _, by rw [List.length_replicate, hl2]; omega, ?_⟩⟩))
        rw [hl2]
        show [_, Blk.dead, Blk.c (subs _ (frs (R ++ [F])) ++ List.replicate (d * 12 - (subs _ (frs (R ++ [F]))).length) .un)] = _
        rw [subs_frs, hfl2, hl2]
        rfl
  · have he : putE R F most = 14 := by unfold putE; rw [if_neg hm]
    rw [Fr.bad hm]
    refine ⟨.inl rfl, [.c [.sl (some (1, 0)) 12 R.length c, .i .i64 most], .c (frs R ++ Y), .c F.cells], rfl, ?_⟩
    conv => whnf
    refine GhR.sel [0, 1] rfl (GhR.of ⟨by rw [he]; rfl, .inr ⟨by omega, c, Y, hc, hY, hYl, ?_⟩⟩)
    show [_, Blk.c (subs _ (frs R ++ Y))] = _
    rw [hp]
    rfl
set_option maxHeartbeats 400000 in
theorem rfput_nil (F : Fr) (hF : F.ok) (most : Int) (hmost : 1 ≤ most) : ACall Try.prog 23 [.p (some (0, 0)), F.av] [.c [.sl none 0 0 0, .i .i64 most]] fun r H => r = .ret (.i .i64 F.chk) ∧ ((F.may ∧ QIn [F] most H) ∨ (¬ F.may ∧ QNil most H)) := by
  refine ACall.gh ?_
  refine ACall.enter tok false Try.func23 rfl rfl rfl (AW_sound (ip := false) tok _ _ _ _ ?_)
  conv => whnf
  refine ACall.frameH [] [] rfl (args' := [F.av]) (Hc := []) rfl rfl (check3_spec F hF) ?_
  rintro r H ⟨rfl, rfl⟩
  by_cases hm : F.may
  · rw [Fr.good hm]
    refine ⟨.inl rfl, [.c [.sl none 0 0 0, .i .i64 most], .c F.cells], rfl, ?_⟩
    conv => whnf
    refine ADraw.of tok mixed false [0, 1, 2, 3, 4, 5, 6, 7, 8, 9] [] (by kernel_rfl) (fun _ _ _ _ h => h) ?_
    conv => whnf
    · refine acond_f (decide_eq_false (by omega)) ?_
      conv => whnf
      refine ADraw.gh (Gh.regs [0, 3, 4] (Gh.of ?_))
      refine ADraw.post (Q' := fun x r H => x = .normal ∧ ∃ d, 1 ≤ d ∧ H = [.c [.sl (some (3, 0)) 12 1 d, .i .i64 most], .c F.cells, .c F.cells, .c F.cells]) ?_ ?_ (fun x r H hn h => absurd h.1 hn)
      · refine ADraw.tree tok mixed false [] [0, 1, 2, 3] (.node (.cons 4 (.node (.cons 5 (.node (.cons 6 (.node (.cons 7 (.node (.cons 8 (.node (.cons 9 (.node (.cons 10 (.node .nil) .nil)) .nil)) .nil)) .nil)) .nil)) .nil)) (.cons 5 (.node (.cons 4 (.node (.cons 6 (.node (.cons 7 (.node (.cons 8 (.node (.cons 9 (.node (.cons 10 (.node .nil) .nil)) .nil)) .nil)) .nil)) .nil)) (.cons 6 (.node (.cons 4 (.node (.cons 7 (.node (.cons 8 (.node (.cons 9 (.node (.cons 10 (.node .nil) .nil)) .nil)) .nil)) .nil)) .nil)) .nil))) .nil))) (by kernel_rfl) (fun _ _ _ _ h => (by cases h.1)) ?_
        conv => whnf
        refine And.intro ?_ (And.intro ?_ trivial)
        · conv => whnf
          refine ⟨by show 12 ≤ (12 : Nat); omega, ?_⟩
          conv => whnf
          refine ⟨rfl, by decide, by decide, fun d hd => ?_⟩
          conv => whnf
          refine ⟨(by show 0 + 0 + 1 ≤ 2; omega), ?_⟩
          conv => whnf
          exact ⟨rfl, d, hd, rfl⟩
        · conv => whnf
          refine And.intro ?_ (And.intro ?_ trivial)
          · conv => whnf
            refine ⟨by show 12 ≤ (12 : Nat); omega, ?_⟩
            conv => whnf
            refine ⟨rfl, by decide, by decide, fun d hd => ?_⟩
            conv => whnf
            refine ⟨(by show 0 + 0 + 1 ≤ 2; omega), ?_⟩
            conv => whnf
            exact ⟨rfl, d, hd, rfl⟩
          · conv => whnf
            refine ⟨by show 12 ≤ (12 : Nat); omega, ?_⟩
            conv => whnf
            refine ⟨rfl, by decide, by decide, fun d hd => ?_⟩
            conv => whnf
            refine ⟨(by show 0 + 0 + 1 ≤ 2; omega), ?_⟩
            conv => whnf
            exact ⟨rfl, d, hd, rfl⟩
      · rintro r H ⟨_, d, k1, rfl⟩
        refine Gh.regs [] (Gh.of ?_)
        conv => whnf
        refine GhR.sel [0, 3] rfl (GhR.pad 0 0 1 rfl rfl rfl (GhR.of ⟨rfl, .inl ⟨hm, d, List.replicate (d * 12 - 12) .un, k1, Pl.un _, by rw [List.length_replicate]; simp; omega, ?_⟩⟩))
        rw [frs_one]
        rfl
  · rw [Fr.bad hm]
    refine ⟨.inl rfl, [.c [.sl none 0 0 0, .i .i64 most], .c F.cells], rfl, ?_⟩
    conv => whnf
    exact GhR.sel [0] rfl (GhR.of ⟨rfl, .inr ⟨hm, rfl⟩⟩)
end Go.AK
namespace Go.AK
open Go Go.RowKit Go.Proofs
set_option linter.unusedVariables false
set_option maxRecDepth 100000
set_option maxHeartbeats 400000 in
theorem rfall_spec (R : List Fr) (hm : ∀ K ∈ R, K.may) (most : Int) (c : Nat) (Y : List AV) (hY : Pl Y) (hl : R.length < 1000000) :
    ACall Try.prog 24 [.p (some (0, 0))] [.c [.sl (some (1, 0)) 12 R.length c, .i .i64 most], .c (frs R ++ Y)] fun r H => ∃ d, (srt R).length ≤ d ∧ r = .ret (.sl (some (2, 0)) 12 (srt R).length d) ∧ H = [.c [.sl (some (1, 0)) 12 R.length c, .i .i64 most], .c (frs R ++ Y), .c (frs (srt R))] := by
  refine ACall.gh ?_
  refine ACall.enter tok false Try.func24 rfl rfl rfl (AW_sound (ip := false) tok _ _ _ _ ?_)
  have hp : ∀ φ, subs φ (frs R ++ Y) = frs R ++ Y := (Pl.frs R).app hY
  have hfl := frs_length R
  have hN : List.take (R.length * 12) (List.drop 0 (frs R ++ Y)) = frs R := by rw [List.drop_zero, ← hfl]; exact List.take_left
  conv => whnf
  refine ⟨(show 0 ≤ _ from Nat.zero_le _), ?_⟩
  conv => whnf
  refine ⟨by rw [List.length_append]; dsimp only; omega, ?_⟩
  conv => whnf
  refine ⟨by show ones (List.take (R.length * 12) (List.drop 0 (frs R ++ Y))) = true; rw [hN]; exact ones_frs _, by (try dsimp only); omega, by (try dsimp only); omega, fun d0 hd0 => ?_⟩
  conv => whnf
  refine ALoop.ind (ip := false) tok (fun m r H => ∃ (S out : List Fr) (d e : Nat), m = S.length ∧ (∀ K ∈ S, K.may) ∧ srt R = out ++ srt S ∧ S.length ≤ d ∧ out.length ≤ e ∧ S.length < 1000000 ∧ out.length + S.length = R.length ∧
    H = [.c [.sl (some (1, 0)) 12 R.length c, .i .i64 most], .c (frs R ++ Y), .c (frs S), .c (frs out)] ∧
    r = [(4, .sl (some (3, 0)) 12 out.length e), (3, .sl (some (2, 0)) 12 S.length d), (0, .p (some (0, 0)))]) R.length ?_ ?_
  · refine Gh.regs [4, 3, 0] (Gh.sel [0, 1, 3, 4] rfl (Gh.of ⟨R, [], d0, 0, rfl, hm, rfl, by omega, Nat.le_refl _, hl, by simp, ?_, ?_⟩))
    · show [_, Blk.c (subs _ (frs R ++ Y)), Blk.c (subs _ (List.take (0 * 12) (List.drop 0 []) ++ List.take (R.length * 12) (List.drop 0 (frs R ++ Y)))), Blk.c (subs _ [])] = _
      rw [hN]
      show [_, Blk.c (subs _ (frs R ++ Y)), Blk.c (subs _ (frs R)), _] = _
      simp only [hp, subs_frs]
      rfl
    · refine keep_eq (show keepR _ _ = [_, _, _] from rfl) ?_
      simp only [subG, sub, Nat.zero_add]
      rfl
  · rintro m r H ⟨S, out, d, e, rfl, hmS, hsr, hd, he, hSl, hlen, rfl, rfl⟩
    have hfo := frs_length out
    by_cases h1 : (S.length : Int) > 0
    · conv => whnf
      refine acond_t (decide_eq_true h1) ?_
      conv => whnf
      refine ALoop.ind (ip := false) tok (fun m r H => ∃ (i a : Nat), ∃ (hi : i ≤ S.length) (ha : a < i), 1 ≤ i ∧ m = S.length - i ∧ (∀ j (h : j < i), S[j].less (S[a]'(by omega)) = false) ∧ (∀ j (h : j < a), (S[a]'(by omega)).less (S[j]'(by omega)) = true) ∧
        H = [.c [.sl (some (1, 0)) 12 R.length c, .i .i64 most], .c (frs R ++ Y), .c (frs S), .c (frs out)] ∧
        r = [(6, .i .i64 i), (5, .i .i64 a), (4, .sl (some (3, 0)) 12 out.length e), (3, .sl (some (2, 0)) 12 S.length d), (0, .p (some (0, 0)))]) (S.length - 1) ?_ ?_
      · refine Gh.regs [6, 5, 4, 3, 0] (Gh.of ⟨1, 0, by omega, by omega, by omega, rfl, fun j h => ?_, fun j h => by omega, rfl, rfl⟩)
        obtain rfl : j = 0 := by omega
        exact less_irr _
      · rintro m r H ⟨i, a, hi, ha, h1i, rfl, hn1, hn2, rfl, rfl⟩
        by_cases h2 : (i : Int) < S.length
        · have hil : i < S.length := by omega
          have hal : a < S.length := by omega
          have hmi := hmS _ (List.getElem_mem hil)
          have hma := hmS _ (List.getElem_mem hal)
          have hs := ahead_spec S[i] S[a] hmi hma
          obtain ⟨b, hb⟩ : ∃ b, S[i].less S[a] = b := ⟨_, rfl⟩
          rw [hb] at hs
          conv => whnf
          refine acond_t (decide_eq_true h2) ?_
          conv => whnf
          refine ADraw.of tok mixed false [0, 1, 2, 3, 4, 5, 6, 7] [8] (by kernel_rfl) (fun _ _ _ _ h => h) ?_
          conv => whnf
          refine ⟨⟨by omega, h2⟩, ?_⟩
          conv => whnf
          refine aget_fr (k := i) (by omega) hil ?_
          conv => whnf
          refine ⟨⟨by omega, by omega⟩, ?_⟩
          conv => whnf
          refine aget_fr (k := a) (by omega) hal ?_
          conv => whnf
          refine ACall.frameH [] [] rfl (args' := [S[i].av, S[a].av]) (Hc := []) rfl rfl hs ?_
          rintro r H ⟨rfl, rfl⟩
          refine ⟨.inl rfl, [.c [.sl (some (1, 0)) 12 R.length c, .i .i64 most], .c (frs R ++ Y), .c (frs S), .c (frs out)], rfl, ?_⟩
          conv => whnf
          by_cases hbt : b = true
          · have hlt : S[i].less S[a] = true := by rw [hb, hbt]
            refine acond_t hbt ?_
            conv => whnf
            refine Gh.regs [6, 5, 4, 3, 0] (Gh.of ⟨S.length - (i + 1), by omega, i + 1, i, by omega, by omega, by omega, rfl, fun j h => ?_, fun j h => ?_, rfl, ?_⟩)
            · by_cases e : j = i
              · subst e; exact less_irr _
              · cases hc : S[j].less S[i] with
                | false => rfl
                | true =>
                  have := hn1 j (by omega)
                  rw [less_trans hc hlt] at this; cases this
            · exact less_le hmi hma (hmS _ (List.getElem_mem _)) hlt (hn1 j h)
            · rw [w64 (by omega) (by omega)]; rfl
          · have hbf : b = false := by simpa using hbt
            have hlt : S[i].less S[a] = false := by rw [hb, hbf]
            refine acond_f hbf ?_
            conv => whnf
            refine Gh.regs [6, 5, 4, 3, 0] (Gh.of ⟨S.length - (i + 1), by omega, i + 1, a, by omega, by omega, by omega, rfl, fun j h => ?_, hn2, rfl, ?_⟩)
            · by_cases e : j = i
              · subst e; exact hlt
              · exact hn1 j (by omega)
            · rw [w64 (by omega) (by omega)]; rfl
        · have hil : i = S.length := by omega
          subst hil
          have hmin := srt_min S a ha hmS hn1 (fun j h hj => hn2 j hj)
          have hel : (S.eraseIdx a).length = S.length - 1 := List.length_eraseIdx_of_lt ha
          conv => whnf
          refine acond_f (decide_eq_false h2) ?_
          conv => whnf
          refine ⟨⟨by omega, by omega⟩, ?_⟩
          conv => whnf
          refine aget_fr (k := a) (by omega) ha ?_
          conv => whnf
          refine ⟨by dsimp only; omega, ?_⟩
          conv => whnf
          refine ⟨by show 12 ≤ (12 : Nat); omega, ?_⟩
          conv => whnf
          refine ⟨rfl, by (try dsimp only); omega, by omega, fun e2 he2 => ?_⟩
          conv => whnf
          have hAq : List.take (out.length * 12) (List.drop 0 (frs out)) ++ S[a].cells = frs (out ++ [S[a]]) := by
            rw [List.drop_zero, List.take_of_length_le (by omega), ← frs_one, ← frs_append]
          refine ACall.frameH [] [2] rfl (args' := [.rs (frs S) 0 12 S.length, .i .i64 a]) (Hc := []) (by show [AV.rs (subs _ (frs S)) 0 12 S.length, _] = _; rw [subs_frs]; rfl) rfl (without_spec S a hSl) ?_
          rintro r H ⟨d2, hd2, rfl, rfl⟩
          refine ⟨.inr ⟨rfl, by simp [nroH, nroB, nros_frs]⟩, [.c [.sl (some (1, 0)) 12 R.length c, .i .i64 most], .c (frs R ++ Y), .c (frs S), .dead, .c S[a].cells, .c (frs (out ++ [S[a]])), .c (frs (S.eraseIdx a))], by
            show [_, _, _, _, _, Blk.c (List.take (out.length * 12) (List.drop 0 (frs out)) ++ S[a].cells), Blk.c (subs _ _)] = _
            rw [hAq, subs_frs]
            rfl, ?_⟩
          conv => whnf
          refine Gh.regs [4, 3, 0] (Gh.sel [0, 1, 6, 5] rfl (Gh.of ⟨(S.eraseIdx a).length, by omega, S.eraseIdx a, out ++ [S[a]], d2, e2, rfl, fun K hK => hmS K (List.mem_of_mem_eraseIdx hK), by rw [hsr, hmin]; simp, hd2, by rw [List.length_append]; exact he2, by omega, by rw [List.length_append, List.length_singleton]; omega, ?_, ?_⟩))
          · show [_, Blk.c (subs _ (frs R ++ Y)), Blk.c (subs _ (frs _)), Blk.c (subs _ (frs _))] = _
            simp only [hp, subs_frs]
            rfl
          · refine keep_eq (show keepR _ _ = [_, _, _] from rfl) ?_
            simp only [subG, sub, List.length_append, List.length_singleton]
            rfl
    · have hS0 : S = [] := List.eq_nil_of_length_eq_zero (by omega)
      subst hS0
      have hso : srt R = out := by rw [hsr]; exact List.append_nil _
      conv => whnf
      rw [hso]
      refine GhR.sel [0, 1, 3] rfl (GhR.of ⟨e, he, rfl, ?_⟩)
      show [_, Blk.c (subs _ (frs R ++ Y)), Blk.c (subs _ (frs out))] = _
      simp only [hp, subs_frs]
      rfl
set_option maxHeartbeats 400000 in
theorem rfall_nil (most : Int) : ACall Try.prog 24 [.p (some (0, 0))] [.c [.sl none 0 0 0, .i .i64 most]] fun r H => ∃ d, r = .ret (.sl (some (1, 0)) 12 0 d) ∧ H = [.c [.sl none 0 0 0, .i .i64 most], .c (frs [])] := by
  refine ACall.gh ?_
  refine ACall.enter tok false Try.func24 rfl rfl rfl (AW_sound (ip := false) tok _ _ _ _ ?_)
  conv => whnf
  refine ⟨(show 0 ≤ _ from Nat.zero_le _), ?_⟩
  conv => whnf
  refine ⟨rfl, by decide, by decide, fun d0 hd0 => ?_⟩
  conv => whnf
  refine ALoop.ind (ip := false) tok (fun m r H => H = [.c [.sl none 0 0 0, .i .i64 most], .c (frs []), .c (frs [])] ∧ r = [(4, .sl (some (2, 0)) 12 0 0), (3, .sl (some (1, 0)) 12 0 d0), (0, .p (some (0, 0)))]) 0 ?_ ?_
  · exact Gh.regs [4, 3, 0] (Gh.sel [0, 2, 3] rfl (Gh.of ⟨rfl, rfl⟩))
  · rintro m r H ⟨rfl, rfl⟩
    conv => whnf
    exact GhR.sel [0, 2] rfl (GhR.of ⟨_, rfl, rfl⟩)
end Go.AK
