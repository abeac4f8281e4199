/- Texts SQPlaysP, SQOwnP: an evaluator of the model's code, proved sound, and what the program's functions do, for all inputs. -/
import Derived.Test.YtmhagleekhihoaaMS4
namespace Go.AK
open Go Go.RowKit Go.Proofs
set_option linter.unusedVariables false
set_option maxRecDepth 100000
theorem cutK {P : Program} {n0 nt : Nat} {ops : Array Oper} {Q : AX → Regs → Heap → Prop} {G : Prop} (Inv : Regs → Heap → Prop) (h1 : (∀ rr HH, Inv rr HH → ADraw P n0 nt ops rr HH Q) → G) (h2 : ∀ rr HH, Inv rr HH → ADraw P n0 nt ops rr HH Q) : G := h1 h2
theorem list_two {α : Type} (l : List α) : l = [] ∨ ∃ x t, l = x :: t := by
  cases l with
  | nil => exact .inl rfl
  | cons x t => exact .inr ⟨x, t, rfl⟩
/-- The document's row behind an act. -/
def rowL (R : List Fr) (most : Int) (a : Bool × Fr) : List Fr := if a.1 = true then R.erase a.2 else (if putE R a.2 most = 0 then R ++ [a.2] else R)
theorem putE_len {R S : List Fr} {F : Fr} {most : Int} (h : R.length = S.length) : putE R F most = putE S F most := by unfold putE; rw [h]
theorem act_row (R : List Fr) (hm : ∀ K ∈ R, K.may) (most : Int) (a : Bool × Fr) : actL (srt R) most a = srt (rowL R most a) ∧ actE (srt R) most a = actE R most a := by
  have hpe : putE (srt R) a.2 most = putE R a.2 most := putE_len (srt_length R)
  unfold actL actE rowL
  rw [hpe]
  split
  · constructor
    · split
      · rw [drop_erase, srt_erase R hm]
      · rename_i h
        rw [List.erase_of_not_mem (fun h2 => h (srt_mem.2 h2))]
    · by_cases h : a.2 ∈ R
      · rw [if_pos (srt_mem.2 h), if_pos h]
      · rw [if_neg (fun h2 => h (srt_mem.1 h2)), if_neg h]
  · refine ⟨?_, rfl⟩
    split
    · rw [srt_snoc]
    · rfl
theorem rowL_ok {R : List Fr} {most : Int} {a : Bool × Fr} (h : ∀ K ∈ R, K.may ∧ K.ok) (ha : a.2.ok) : ∀ K ∈ rowL R most a, K.may ∧ K.ok := fun K hK => by
  unfold rowL at hK
  split at hK
  · exact h K (List.mem_of_mem_erase hK)
  · split at hK
    · rename_i he
      rcases List.mem_append.1 hK with h2 | h2
      · exact h K h2
      · rw [List.mem_singleton.1 h2]
        refine ⟨?_, ha⟩
        unfold putE at he
        split at he
        · assumption
        · omega
    · exact h K hK
theorem rowL_len {R : List Fr} {most : Int} {a : Bool × Fr} (h : (R.length : Int) ≤ most) : ((rowL R most a).length : Int) ≤ most := by
  unfold rowL
  split
  · have : (R.erase a.2).length ≤ R.length := List.length_erase_le
    omega
  · split
    · rename_i he
      unfold putE at he
      split at he
      · split at he
        · omega
        · rw [List.length_append, List.length_singleton]; omega
      · omega
    · exact h
theorem aget_actF {L : List (Bool × Fr)} {k o : Nat} (ho : o = k * 13 + 1) (hk : k < L.length) {K : AV → AV → AV → AV → AV → AV → AV → AV → AV → AV → AV → AV → Prop} (h : K (.i .i64 L[k].2.id) (.b L[k].2.ext) (.b L[k].2.rtr) (.i .i64 L[k].2.len) (.i .u8 L[k].2.b0) (.i .u8 L[k].2.b1) (.i .u8 L[k].2.b2) (.i .u8 L[k].2.b3) (.i .u8 L[k].2.b4) (.i .u8 L[k].2.b5) (.i .u8 L[k].2.b6) (.i .u8 L[k].2.b7)) :
    aget (acs L) o fun v0 => aget (acs L) (o + 1) fun v1 => aget (acs L) ((o + 1) + 1) fun v2 => aget (acs L) (((o + 1) + 1) + 1) fun v3 => aget (acs L) ((((o + 1) + 1) + 1) + 1) fun v4 => aget (acs L) (((((o + 1) + 1) + 1) + 1) + 1) fun v5 => aget (acs L) ((((((o + 1) + 1) + 1) + 1) + 1) + 1) fun v6 => aget (acs L) (((((((o + 1) + 1) + 1) + 1) + 1) + 1) + 1) fun v7 => aget (acs L) ((((((((o + 1) + 1) + 1) + 1) + 1) + 1) + 1) + 1) fun v8 => aget (acs L) (((((((((o + 1) + 1) + 1) + 1) + 1) + 1) + 1) + 1) + 1) fun v9 => aget (acs L) ((((((((((o + 1) + 1) + 1) + 1) + 1) + 1) + 1) + 1) + 1) + 1) fun v10 => aget (acs L) (((((((((((o + 1) + 1) + 1) + 1) + 1) + 1) + 1) + 1) + 1) + 1) + 1) fun v11 => K v0 v1 v2 v3 v4 v5 v6 v7 v8 v9 v10 v11 := by
  subst ho
  have g : ∀ j (v : AV), j < 12 → L[k].2.cells[j]? = some v → (acs L)[k * 13 + 1 + j]? = some v := fun j v hj h => by rw [Nat.add_assoc, acs_get hk (by omega), Nat.add_comm 1 j]; exact h
  unfold aget
  rw [show (acs L)[k * 13 + 1]? = some (.i .i64 L[k].2.id) from g 0 _ (by omega) rfl]
  dsimp only
  rw [show (acs L)[(k * 13 + 1 + 1)]? = some (.b L[k].2.ext) from g 1 _ (by omega) rfl]
  dsimp only
  rw [show (acs L)[((k * 13 + 1 + 1) + 1)]? = some (.b L[k].2.rtr) from g 2 _ (by omega) rfl]
  dsimp only
  rw [show (acs L)[(((k * 13 + 1 + 1) + 1) + 1)]? = some (.i .i64 L[k].2.len) from g 3 _ (by omega) rfl]
  dsimp only
  rw [show (acs L)[((((k * 13 + 1 + 1) + 1) + 1) + 1)]? = some (.i .u8 L[k].2.b0) from g 4 _ (by omega) rfl]
  dsimp only
  rw [show (acs L)[(((((k * 13 + 1 + 1) + 1) + 1) + 1) + 1)]? = some (.i .u8 L[k].2.b1) from g 5 _ (by omega) rfl]
  dsimp only
  rw [show (acs L)[((((((k * 13 + 1 + 1) + 1) + 1) + 1) + 1) + 1)]? = some (.i .u8 L[k].2.b2) from g 6 _ (by omega) rfl]
  dsimp only
  rw [show (acs L)[(((((((k * 13 + 1 + 1) + 1) + 1) + 1) + 1) + 1) + 1)]? = some (.i .u8 L[k].2.b3) from g 7 _ (by omega) rfl]
  dsimp only
  rw [show (acs L)[((((((((k * 13 + 1 + 1) + 1) + 1) + 1) + 1) + 1) + 1) + 1)]? = some (.i .u8 L[k].2.b4) from g 8 _ (by omega) rfl]
  dsimp only
  rw [show (acs L)[(((((((((k * 13 + 1 + 1) + 1) + 1) + 1) + 1) + 1) + 1) + 1) + 1)]? = some (.i .u8 L[k].2.b5) from g 9 _ (by omega) rfl]
  dsimp only
  rw [show (acs L)[((((((((((k * 13 + 1 + 1) + 1) + 1) + 1) + 1) + 1) + 1) + 1) + 1) + 1)]? = some (.i .u8 L[k].2.b6) from g 10 _ (by omega) rfl]
  dsimp only
  rw [show (acs L)[(((((((((((k * 13 + 1 + 1) + 1) + 1) + 1) + 1) + 1) + 1) + 1) + 1) + 1) + 1)]? = some (.i .u8 L[k].2.b7) from g 11 _ (by omega) rfl]
  exact h
theorem does_nil2 (a : Bool × Fr) (ha : a.2.ok) (most : Int) (hmost : 1 ≤ most) :
    ACall Try.prog 16 [.p (some (0, 0)), actAV a] [.c [.sl none 0 0 0, .i .i64 most]] fun r H => r = .ret (.i .i64 (actE [] most a)) ∧ ((actL [] most a = [] ∧ QNil most H) ∨ (actL [] most a ≠ [] ∧ QIn (actL [] most a) most H)) := by
  obtain ⟨d, F⟩ := a
  refine ACall.gh ?_
  refine ACall.enter tok false Try.func16 rfl rfl rfl (AW_sound (ip := false) tok _ _ _ _ ?_)
  cases d
  · conv => whnf
    refine ACall.frame [0] [] rfl (args' := [.p (some (0, 0)), F.av]) (Hc := [.c [.sl none 0 0 0, .i .i64 most]]) rfl rfl (qput_nil F ha most hmost) ?_
    rintro r H ⟨rfl, ⟨h0, d, Z, k1, k2, k3, rfl⟩ | ⟨h0, rfl⟩⟩
    · have hE : actE [] most (false, F) = F.chk := by
        unfold actE putE; rw [if_neg (by simp), if_pos h0, if_neg (by simp; omega), Fr.good h0]
      have hL : actL [] most (false, F) = [F] := by
        have hpe : putE [] F most = 0 := by unfold putE; rw [if_pos h0, if_neg (by simp; omega)]
        unfold actL; rw [if_neg (by simp), if_pos hpe]; rfl
      refine ⟨.inl rfl, ?_⟩
      conv => whnf
      have hz : Pl (frs [F] ++ Z) := (Pl.frs _).app k2
      refine GhR.sel [0, 2] rfl (GhR.of ⟨by rw [hE]; rfl, .inr ⟨by rw [hL]; simp, d, Z, by rw [hL]; exact k1, k2, by rw [hL]; exact k3, ?_⟩⟩)
      rw [hL]
      show [_, Blk.c (subs _ (subs _ (frs [F] ++ Z)))] = _
      rw [hz, hz]
      rfl
    · have hE : actE [] most (false, F) = F.chk := by
        unfold actE putE; rw [if_neg (by simp), if_neg h0, Fr.bad h0]
      have hL : actL [] most (false, F) = [] := by
        unfold actL putE; rw [if_neg (by simp), if_neg h0, if_neg (by decide)]
      refine ⟨.inl rfl, ?_⟩
      conv => whnf
      exact GhR.sel [0] rfl (GhR.of ⟨by rw [hE]; rfl, .inl ⟨hL, rfl⟩⟩)
  · conv => whnf
    refine ACall.frame [0] [] rfl (args' := [.p (some (0, 0)), F.av]) (Hc := [.c [.sl none 0 0 0, .i .i64 most]]) rfl rfl (qdrop_nil F most) ?_
    rintro r H ⟨rfl, rfl⟩
    refine ⟨.inl rfl, ?_⟩
    conv => whnf
    exact GhR.sel [0] rfl (GhR.of ⟨rfl, .inl ⟨rfl, rfl⟩⟩)
end Go.AK
namespace Go.AK
open Go Go.RowKit Go.Proofs
set_option linter.unusedVariables false
set_option maxRecDepth 100000
theorem qfirst_np : ACall Try.prog 26 [.p none] [] fun r H => r = .ret (.tup [zav, .b false]) ∧ H = [] := by
  refine ACall.gh ?_
  refine ACall.enter tok false Try.func26 rfl rfl rfl (AW_sound (ip := false) tok _ _ _ _ ?_)
  conv => whnf
  refine ⟨(by show 0 + 12 ≤ 12; omega), ?_⟩
  conv => whnf
  exact GhR.sel [] rfl (GhR.of ⟨rfl, rfl⟩)
theorem qput_np (F : Fr) : ACall Try.prog 21 [.p none, F.av] [] fun r H => r = .ret (.i .i64 2) ∧ H = [] := by
  refine ACall.gh ?_
  refine ACall.enter tok false Try.func21 rfl rfl rfl (AW_sound (ip := false) tok _ _ _ _ ?_)
  conv => whnf
  exact GhR.sel [] rfl (GhR.of ⟨rfl, rfl⟩)
theorem qdrop_np (F : Fr) : ACall Try.prog 19 [.p none, F.av] [] fun r H => r = .ret (.i .i64 2) ∧ H = [] := by
  refine ACall.gh ?_
  refine ACall.enter tok false Try.func19 rfl rfl rfl (AW_sound (ip := false) tok _ _ _ _ ?_)
  conv => whnf
  exact GhR.sel [] rfl (GhR.of ⟨rfl, rfl⟩)
theorem qlen_np : ACall Try.prog 25 [.p none] [] fun r H => r = .ret (.i .i64 0) ∧ H = [] := by
  refine ACall.enter tok false Try.func25 rfl rfl rfl (AW_sound (ip := false) tok _ _ _ _ ?_)
  conv => whnf
  exact ⟨rfl, rfl⟩
theorem qall_np : ACall Try.prog 17 [.p none] [] fun r H => r = .ret (.sl none 0 0 0) ∧ H = [] := by
  refine ACall.enter tok false Try.func17 rfl rfl rfl (AW_sound (ip := false) tok _ _ _ _ ?_)
  conv => whnf
  exact ⟨rfl, rfl⟩
theorem qclone_np : ACall Try.prog 18 [.p none] [] fun r H => r = .ret (.p none) ∧ H = [] := by
  refine ACall.enter tok false Try.func18 rfl rfl rfl (AW_sound (ip := false) tok _ _ _ _ ?_)
  conv => whnf
  exact ⟨rfl, rfl⟩
/-! The frames there are behind so many acts. -/
def actsN (A : List (Bool × Fr)) (most : Int) (k : Nat) : List Fr := (A.take k).foldl (fun l a => actL l most a) []
theorem actsN_zero (A : List (Bool × Fr)) (most : Int) : actsN A most 0 = [] := rfl
theorem actsN_next {A : List (Bool × Fr)} {most : Int} {k : Nat} (h : k < A.length) : actsN A most (k + 1) = actL (actsN A most k) most A[k] := by
  unfold actsN
  rw [List.take_succ_eq_append_getElem h, List.foldl_append]
  rfl
theorem actsN_ok {A : List (Bool × Fr)} (hA : ∀ a ∈ A, a.2.ok) (most : Int) : ∀ {k : Nat}, k ≤ A.length → ∀ F ∈ actsN A most k, F.ok
  | 0, _, F, h => by cases h
  | k + 1, hk, F, h => by
    rw [actsN_next (by omega)] at h
    exact act_ok (actsN_ok hA most (by omega)) (hA _ (List.getElem_mem _)) F h
theorem actsN_len {A : List (Bool × Fr)} {most : Int} (hm : 0 ≤ most) : ∀ {k : Nat}, k ≤ A.length → ((actsN A most k).length : Int) ≤ most
  | 0, _ => hm
  | k + 1, hk => by
    rw [actsN_next (by omega)]
    exact act_len (actsN_len hm (by omega))
/-! 'has': how many of a frame are used. -/
def cntU : List Fr → List Bool → Fr → Nat
  | X :: a, u :: us, F => (if u = true ∧ X = F then 1 else 0) + cntU a us F
  | _, _, _ => 0
theorem cntU_zero : ∀ (a : List Fr) (n : Nat) (F : Fr), cntU a (List.replicate n false) F = 0
  | [], _, _ => by cases ‹Nat› <;> rfl
  | X :: a, 0, _ => rfl
  | X :: a, n + 1, F => by
    rw [List.replicate_succ]
    unfold cntU
    rw [cntU_zero a n F, if_neg (by simp)]
theorem cntU_set : ∀ {a : List Fr} {u : List Bool} {k : Nat} (hk : k < a.length) (hu : k < u.length), u[k] = false → ∀ F, cntU a (u.set k true) F = cntU a u F + if a[k] = F then 1 else 0
  | X :: a, b :: u, 0, hk, hu, h, F => by
    have hb : b = false := h
    subst hb
    show (if true = true ∧ X = F then 1 else 0) + cntU a u F = ((if false = true ∧ X = F then 1 else 0) + cntU a u F) + if X = F then 1 else 0
    by_cases e : X = F
    · rw [if_pos ⟨rfl, e⟩, if_neg (by simp), if_pos e]; omega
    · rw [if_neg (by simp [e]), if_neg (by simp), if_neg e]; omega
  | X :: a, b :: u, k + 1, hk, hu, h, F => by
    show (if b = true ∧ X = F then 1 else 0) + cntU a (u.set k true) F = ((if b = true ∧ X = F then 1 else 0) + cntU a u F) + if a[k]'(Nat.lt_of_succ_lt_succ hk) = F then 1 else 0
    rw [cntU_set (Nat.lt_of_succ_lt_succ hk) (Nat.lt_of_succ_lt_succ hu) h F]
    omega
  | [], _, _, hk, _, _, _ => absurd hk (by simp)
  | _ :: _, [], _, _, hu, _, _ => absurd hu (by simp)
theorem cntU_full : ∀ {a : List Fr} {u : List Bool} {F : Fr}, u.length = a.length → (∀ k (h : k < a.length) (h2 : k < u.length), u[k] = true ∨ a[k] ≠ F) → cntU a u F = a.count F
  | [], [], _, _, _ => rfl
  | X :: a, b :: u, F, hl, h => by
    have h0 : b = true ∨ X ≠ F := h 0 (by simp) (by simp)
    have ih := cntU_full (a := a) (u := u) (F := F) (by simpa using hl) (fun k h1 h2 => h (k + 1) (by simp; omega) (by simp; omega))
    show (if b = true ∧ X = F then 1 else 0) + cntU a u F = _
    rw [ih, List.count_cons]
    by_cases e : X = F
    · rw [if_pos ⟨h0.resolve_right (fun k => k e), e⟩, if_pos (by simp [e])]; omega
    · rw [if_neg (by simp [e]), if_neg (by simp [e])]; omega
  | [], _ :: _, _, hl, _ => by simp at hl
  | _ :: _, [], _, hl, _ => by simp at hl
def bools (L : List Bool) : List AV := L.map AV.b
theorem subs_bools (φ : Nat → Sb) : ∀ L, subs φ (bools L) = bools L
  | [] => rfl
  | b :: L => by show sub φ (.b b) :: subs φ (bools L) = _; rw [subs_bools φ L]; rfl
theorem bools_get {v : List Bool} {k : Nat} {x : Bool} (h : k < v.length) (hx : v[k] = x) : (bools v)[k]? = some (.b x) := by
  unfold bools
  rw [List.getElem?_map, List.getElem?_eq_getElem h, hx]; rfl
theorem bools_set {v : List Bool} {k : Nat} (h : k < v.length) : setCells (bools v) k [.b true] = bools (v.set k true) := by
  show (bools v).set k (.b true) = _
  unfold bools
  rw [List.map_set]
theorem count_take_lt {b : List Fr} {i : Nat} (hi : i < b.length) : (b.take i).count b[i] < b.count b[i] := by
  have h := List.take_append_drop i b
  have h2 : b.count b[i] = (b.take i).count b[i] + (b.drop i).count b[i] := by rw [← List.count_append, h]
  have h3 : (b.drop i).count b[i] > 0 := List.count_pos_iff.2 (by rw [List.drop_eq_getElem_cons hi]; exact List.mem_cons_self)
  omega
theorem count_take_step {b : List Fr} {i : Nat} (hi : i < b.length) (F : Fr) : (b.take (i + 1)).count F = (b.take i).count F + if b[i] = F then 1 else 0 := by
  rw [List.take_succ_eq_append_getElem hi, List.count_append, List.count_singleton]
  by_cases e : b[i] = F
  · rw [if_pos e, if_pos (by simp [e])]
  · rw [if_neg e, if_neg (by simp [e])]
theorem has_spec (a b : List Fr) (ha : a.length < 1000000) (hb : b.length < 1000000) (hab : ∀ F, b.count F ≤ a.count F) :
    ACall Try.prog 30 [.rs (frs a) 0 12 a.length, .rs (frs b) 0 12 b.length] [] fun r H => r = .ret (.b true) ∧ H = [] := by
  refine ACall.gh ?_
  refine ACall.enter tok false Try.func30 rfl rfl rfl (AW_sound (ip := false) tok _ _ _ _ ?_)
  conv => whnf
  refine ⟨⟨by omega, by omega, by dsimp only; omega, by omega⟩, ?_⟩
  conv => whnf
  have hinit : ∀ n, n = a.length → List.flatten (List.replicate n [AV.b false]) = bools (List.replicate a.length false) := by
    rintro n rfl
    unfold bools
    rw [List.map_replicate]
    induction a.length with
    | zero => rfl
    | succ n ih => rw [List.replicate_succ, List.flatten_cons, ih, List.replicate_succ]; rfl
  refine ALoop.ind (ip := false) tok (fun m r H => ∃ (i : Nat) (u : List Bool), i ≤ b.length ∧ m = b.length - i ∧ u.length = a.length ∧ (∀ F, cntU a u F = (b.take i).count F) ∧
    H = [.c (bools u)] ∧ r = [(6, .i .i64 i), (5, .sl (some (0, 0)) 1 a.length a.length), (4, .b false), (1, .rs (frs b) 0 12 b.length), (0, .rs (frs a) 0 12 a.length)]) b.length ?_ ?_
  · exact Gh.regs [6, 5, 4, 1, 0] (Gh.of ⟨0, List.replicate a.length false, by omega, by omega, by simp, (fun F => by rw [cntU_zero]; rfl), congrArg (fun x => [Blk.c x]) (hinit a.length rfl), rfl⟩)
  · rintro m r H ⟨i, u, hi, rfl, hu, hc, rfl, rfl⟩
    by_cases h1 : (i : Int) < b.length
    · have hil : i < b.length := by omega
      conv => whnf
      refine acond_t (decide_eq_true h1) ?_
      conv => whnf
      refine ALoop.ind (ip := false) tok (fun m r H => ∃ (k : Nat) (th : Bool) (v : List Bool), k ≤ a.length ∧ m = a.length - k ∧ v.length = a.length ∧
        (th = false → (v = u ∧ ∀ j (h : j < a.length) (h2 : j < u.length), j < k → u[j] = true ∨ a[j] ≠ b[i])) ∧ (th = true → ∀ F, cntU a v F = (b.take (i + 1)).count F) ∧
        H = [.c (bools v)] ∧ r = [(8, .i .i64 k), (7, .b th), (6, .i .i64 i), (5, .sl (some (0, 0)) 1 a.length a.length), (4, .b false), (1, .rs (frs b) 0 12 b.length), (0, .rs (frs a) 0 12 a.length)]) a.length ?_ ?_
      · exact Gh.regs [8, 7, 6, 5, 4, 1, 0] (Gh.of ⟨0, false, u, by omega, by omega, hu, (fun _ => ⟨rfl, fun j h h2 h3 => by omega⟩), (fun h => by cases h), rfl, rfl⟩)
      · rintro m r H ⟨k, th, v, hk, rfl, hv, hf, ht, rfl, rfl⟩
        cases th
        · obtain ⟨rfl, hno⟩ := hf rfl
          by_cases h2 : (k : Int) < a.length
          · have hkl : k < a.length := by omega
            have hkv : k < v.length := by omega
            cases hvk : v[k]
            · by_cases he : a[k] = b[i]
              · conv => whnf
                repeat (refine acond_t (decide_eq_true h2) ?_; conv => whnf)
                refine ADraw.of tok mixed false [0, 1, 2, 3, 4, 5, 6, 7, 8, 9, 10, 11, 12, 13, 14, 15] [] (by kernel_rfl) (fun _ _ _ _ h => h) ?_
                conv => whnf
                refine ⟨⟨by omega, h2⟩, ?_⟩
                conv => whnf
                refine aget_at (i := k) (by omega) (bools_get hkv hvk) ?_
                conv => whnf
                refine ⟨⟨by omega, h2⟩, ?_⟩
                conv => whnf
                refine aget_fr (k := k) (by omega) hkl ?_
                conv => whnf
                refine ⟨⟨by omega, h1⟩, ?_⟩
                conv => whnf
                refine aget_fr (k := i) (by omega) hil ?_
                conv => whnf
                refine ⟨flatFrame, ?_⟩
                conv => whnf
                refine acond_t (show _ = true from (fr_eq a[k] b[i]).trans (decide_eq_true he)) ?_
                conv => whnf
                refine ⟨⟨by omega, h2⟩, ?_⟩
                conv => whnf
                refine ⟨by show 0 + k * 1 + 1 ≤ (bools v).length; unfold bools; rw [List.length_map]; omega, ?_⟩
                conv => whnf
                refine Gh.regs [8, 7, 6, 5, 4, 1, 0] (Gh.of ⟨a.length - (k + 1), by omega, k + 1, true, v.set k true, by omega, rfl, by simp [hv], (fun h => by cases h), (fun _ F => ?_), ?_, ?_⟩)
                · rw [cntU_set hkl hkv hvk, hc F, count_take_step hil F, he]
                · refine congrArg (fun x => [Blk.c x]) ?_
                  rw [← bools_set hkv]
                  show setCells (bools v) (0 + k * 1) [.b true] = _
                  rw [Nat.zero_add, Nat.mul_one]
                · rw [w64 (by omega) (by omega)]; rfl
              · conv => whnf
                repeat (refine acond_t (decide_eq_true h2) ?_; conv => whnf)
                refine ADraw.of tok mixed false [0, 1, 2, 3, 4, 5, 6, 7, 8, 9, 10, 11, 12, 13, 14, 15] [] (by kernel_rfl) (fun _ _ _ _ h => h) ?_
                conv => whnf
                refine ⟨⟨by omega, h2⟩, ?_⟩
                conv => whnf
                refine aget_at (i := k) (by omega) (bools_get hkv hvk) ?_
                conv => whnf
                refine ⟨⟨by omega, h2⟩, ?_⟩
                conv => whnf
                refine aget_fr (k := k) (by omega) hkl ?_
                conv => whnf
                refine ⟨⟨by omega, h1⟩, ?_⟩
                conv => whnf
                refine aget_fr (k := i) (by omega) hil ?_
                conv => whnf
                refine ⟨flatFrame, ?_⟩
                conv => whnf
                refine acond_f (show _ = false from (fr_eq a[k] b[i]).trans (decide_eq_false he)) ?_
                conv => whnf
                refine Gh.regs [8, 7, 6, 5, 4, 1, 0] (Gh.of ⟨a.length - (k + 1), by omega, k + 1, false, v, by omega, rfl, hv, (fun _ => ⟨rfl, fun j h h2 h3 => ?_⟩), (fun h => by cases h), rfl, ?_⟩)
                · by_cases e : j = k
                  · subst e; exact .inr he
                  · exact hno j h h2 (by omega)
                · rw [w64 (by omega) (by omega)]; rfl
            · conv => whnf
              repeat (refine acond_t (decide_eq_true h2) ?_; conv => whnf)
              refine ADraw.of tok mixed false [0, 1, 2, 3, 4, 5, 6, 7, 8, 9, 10, 11, 12, 13, 14, 15] [] (by kernel_rfl) (fun _ _ _ _ h => h) ?_
              conv => whnf
              refine ⟨⟨by omega, h2⟩, ?_⟩
              conv => whnf
              refine aget_at (i := k) (by omega) (bools_get hkv hvk) ?_
              conv => whnf
              refine Gh.regs [8, 7, 6, 5, 4, 1, 0] (Gh.of ⟨a.length - (k + 1), by omega, k + 1, false, v, by omega, rfl, hv, (fun _ => ⟨rfl, fun j h h2 h3 => ?_⟩), (fun h => by cases h), rfl, ?_⟩)
              · by_cases e : j = k
                · subst e; exact .inl hvk
                · exact hno j h h2 (by omega)
              · rw [w64 (by omega) (by omega)]; rfl
          · have hnm : False := by
              have h3 := cntU_full (F := b[i]) hv (fun j h h2 => hno j h h2 (by omega))
              have h4 := hc b[i]
              have h5 := count_take_lt hil
              have h6 := hab b[i]
              omega
            exact hnm.elim
        · have h3 := ht rfl
          by_cases h2 : (k : Int) < a.length
          · conv => whnf
            repeat (refine acond_t (decide_eq_true h2) ?_; conv => whnf)
            refine Gh.regs [6, 5, 4, 1, 0] (Gh.of ⟨b.length - (i + 1), by omega, i + 1, v, by omega, rfl, hv, h3, rfl, ?_⟩)
            rw [w64 (by omega) (by omega)]; rfl
          · conv => whnf
            repeat (refine acond_f (decide_eq_false h2) ?_; conv => whnf)
            refine Gh.regs [6, 5, 4, 1, 0] (Gh.of ⟨b.length - (i + 1), by omega, i + 1, v, by omega, rfl, hv, h3, rfl, ?_⟩)
            rw [w64 (by omega) (by omega)]; rfl
    · have hil : i = b.length := by omega
      subst hil
      conv => whnf
      refine acond_f (decide_eq_false h1) ?_
      conv => whnf
      exact GhR.sel [] rfl (GhR.of ⟨rfl, rfl⟩)
end Go.AK
