import Derived.Test.YtmhagleekhihoaaAK15
namespace Go.AK
open Go Go.RowKit
set_option linter.unusedVariables false
def aresults (T : TT) (r : Regs) (H : Heap) : List ResultVar → (List AV → Prop) → Prop
  | [], K => K []
  | .tmp t :: rs, K => evalK r (.tmp t) fun v => aresults T r H rs fun vs => K (v :: vs)
  | .cell a t :: rs, K => evalK r (.tmp a) fun v => tiK T t fun ti => match v with
    | .p (some (j, o)) => ablk H j fun cs => aload ti cs o fun v => aresults T r H rs fun vs => K (v :: vs)
    | _ => False
def one (vs : List AV) (K : AV → Prop) : Prop :=
  match vs with
  | [v] => K v
  | vs => K (.tup vs)
def outK (T : TT) (rs : List ResultVar) (K : ARes → Heap → Prop) : AX → Regs → Heap → Prop
  | .normal, r, H => aresults T r H rs fun vs => one vs fun v => K (.ret v) H
  | .ret, r, H => aresults T r H rs fun vs => one vs fun v => K (.ret v) H
  | .panic v, r, H => K (.pan v) H
  | .exit _, _, _ => False
def argR : Nat → List AV → Regs
  | _, [] => []
  | k, v :: vs => (k, v) :: argR (k + 1) vs
theorem argR_get : ∀ {vs : List AV} {k t : Nat} {v : AV}, getR (argR k vs) t = some v → k ≤ t ∧ vs[t - k]? = some v
  | [], _, _, _, h => by cases h
  | x :: xs, k, t, v, h => by
    unfold argR getR at h
    split at h
    · rename_i hb; have := Nat.eq_of_beq_eq_true hb; subst this; cases h; exact ⟨Nat.le_refl _, by simp⟩
    · rename_i hb
      have hne : k ≠ t := fun e => by subst e; simp at hb
      obtain ⟨h1, h2⟩ := argR_get h
      refine ⟨by omega, ?_⟩
      rw [show t - k = (t - (k + 1)) + 1 from by omega]
      simpa using h2
section
variable {P : Program} {T : TT} {n0 nt : Nat}
def resG (tmps : Array Value) : ResultVar → Sem Value
  | .tmp t => pure (tmps.getD t undef)
  | .cell x t => do loadVar t (← asAddr (tmps.getD x undef))
theorem results_eq (fn : Func) (tmps : Array Value) : results fn tmps = (do let vs ← fn.results.mapM (resG tmps); pure (if h : vs.size = 1 then vs[0] else .tuple vs)) := by
  unfold results
  congr 2
theorem aresults_sound (hT : TOK P T) {E0 E : Env} {w0 w : World} {r : Regs} {H : Heap} {a : Act} (h : BR n0 nt E0 w0 E r H a w) : ∀ (rs : List ResultVar) (K : List AV → Prop), aresults T r H rs K →
    ∃ vs us, K vs ∧ VRL E vs us ∧ us.length = rs.length ∧ (rs.mapM (resG a.tmps)).run P w = .ok us w
  | [], K, hk => ⟨[], [], hk, rfl, rfl, rfl⟩
  | .tmp t :: rs, K, hk => by
    obtain ⟨v, h1, h2⟩ := evalK_sound h.rr hk
    obtain ⟨vs, us, h3, h4, h5, h6⟩ := aresults_sound hT h rs _ h2
    have h1' : VR E v (a.tmps.getD t undef) := h1
    refine ⟨_, _, h3, ⟨_, _, rfl, h1', h4⟩, by simp [h5], ?_⟩
    simp only [List.mapM_cons, resG, Sem.run_bind, Sem.run_pure, Result.andThen_ok, h6]
  | .cell x t :: rs, K, hk => by
    obtain ⟨v, h1, h2⟩ := evalK_sound h.rr hk
    replace h2 := tiK_some h2
    obtain ⟨ti, ht, h2⟩ := h2
    split at h2
    · rename_i j of_
      obtain ⟨cs, hj, h2⟩ := ablk_some h2
      obtain ⟨g, f, q, hρ, hv⟩ := h1
      obtain ⟨g', f', b, t', e1, e2, e3⟩ := h.rel.blk j cs hj
      rw [hρ] at e1
      simp only [Option.some.injEq, Prod.mk.injEq] at e1
      obtain ⟨rfl, rfl, rfl⟩ := e1
      obtain ⟨y, u, h6, h7, h8⟩ := loadVar_run hT ht e2 e3 h2
      obtain ⟨vs, us, h3, h4, h5, h9⟩ := aresults_sound hT h rs _ h7
      have hv' : a.tmps.getD x undef = .pointer (some ⟨g, f + of_, none⟩) := hv
      refine ⟨_, _, h3, ⟨_, _, rfl, h6, h4⟩, by simp [h5], ?_⟩
      have h10 := h8 w e2
      simp only [List.mapM_cons, resG, Sem.run_bind, Sem.run_pure, Result.andThen_ok, hv', asAddr, h10, h9]
    · exact h2.elim
/-- A call, by its body. -/
theorem ACall.enter (hT : TOK P T) {f : Nat} {fn : Func} {c : Code} {args : List AV} {H : Heap} {K : ARes → Heap → Prop} (ip : Bool) (hf : P.funcs[f]? = some fn) (hb : fn.body = some c) (hn : (fn.name == "runtime.NumGoroutine") = false)
    (hl : Nat.ble args.length fn.ntmps = true) (h : SW P H.length fn.ntmps c (argR 0 args) H (outK T fn.results.toList K)) : ACall P f args H K := by
  refine ⟨⟨fn, hf, hn, by rw [hb]; rfl⟩, fun E w vs hR hv => ?_⟩
  replace hl := Nat.le_of_ble_eq_true hl
  have hvl := hv.length
  have hvs : vs.size = args.length := by simpa using hvl
  have hbr : BR H.length fn.ntmps E w E (argR 0 args) H { tmps := vs ++ Array.replicate (fn.ntmps - vs.size) undef, defers := [] } w := by
    refine ⟨hR.len, .refl E w, hR, ⟨by simp; omega, fun t v ht => ?_⟩, rfl⟩
    obtain ⟨_, h2⟩ := argR_get ht
    simp only [Nat.sub_zero] at h2
    have htl := (List.getElem?_eq_some_iff.mp h2).1
    obtain ⟨u, h3, h4⟩ := hv.get h2
    refine ⟨by omega, ?_⟩
    have h5 : vs[t]? = some u := by simpa using h3
    have h6 : (vs ++ Array.replicate (fn.ntmps - vs.size) undef).getD t undef = u := by
      rw [Array.getD_eq_getD_getElem?, Array.getElem?_append_left (by omega), h5]; rfl
    show VR E v ((vs ++ Array.replicate (fn.ntmps - vs.size) undef).getD t undef)
    rw [h6]; exact h4
  refine calls_of_wp hf hb ?_
  refine wp_mono (h E w E _ w hbr) fun e a' w' ⟨x, E', r', H', k1, k2, k3⟩ => ?_
  have fin : ∀ (k3 : aresults T r' H' fn.results.toList fun vs => one vs fun v => K (.ret v) H'), a'.defers = [] ∧ ∃ v, (results fn a'.tmps).run P w' = .ok v w' ∧ ∃ r E' H', Ext E w E' w' ∧ Rel E' H' w' ∧ K r H' ∧
      match r, Ending.returned v with
      | .ret x, .returned v => VR E' x v
      | .pan x, .panicked chain => ∃ v, chain = [{ v, recovered := false }] ∧ VR E' x v
      | _, _ => False := by
    intro k3
    obtain ⟨us, ws, h1, h2, h3, h4⟩ := aresults_sound hT k2 _ _ k3
    have hrun : ∀ g : ResultVar → Sem Value, (fn.results.toList.mapM g).run P w' = .ok ws w' → (fn.results.mapM g).run P w' = .ok ws.toArray w' := by
      intro g hg
      rw [Array.mapM_eq_mapM_toList, Sem.run_map, hg]; rfl
    have h5 := hrun _ h4
    refine ⟨k2.nd, ?_⟩
    have hul := h2.length
    unfold one at h1
    split at h1
    · rename_i v
      obtain ⟨u, hu, h6⟩ := vrl_one h2
      subst hu
      refine ⟨u, ?_, _, E', H', k2.ext, k2.rel, h1, h6⟩
      simp only [results_eq, Sem.run_bind, h5, Result.andThen_ok]
      simp
    · rename_i hne
      refine ⟨.tuple ws.toArray, ?_, _, E', H', k2.ext, k2.rel, h1, ⟨_, rfl, by simpa using h2⟩⟩
      simp only [results_eq, Sem.run_bind, h5, Result.andThen_ok]
      have hsz : ¬ ws.length = 1 := by
        intro e
        rw [hul] at e
        obtain ⟨v, hv⟩ := List.length_eq_one_iff.mp e
        exact hne v hv
      simp [hsz]
  cases x <;> cases e <;> first | exact k1.elim | skip
  · exact fin k3
  · exact k3.elim
  · exact fin k3
  · obtain ⟨v, rfl, k1⟩ := k1
    exact ⟨k2.nd, _, E', H', k2.ext, k2.rel, k3, v, rfl, k1⟩
theorem ACall.mono {f : Nat} {args : List AV} {H : Heap} {K K' : ARes → Heap → Prop} (h : ACall P f args H K) (hk : ∀ r H', K r H' → K' r H') : ACall P f args H K' :=
  ⟨h.1, fun E w vs hR hv => (h.2 E w vs hR hv).mono fun e w' ⟨r, E', H', k1, k2, k3, k4⟩ => ⟨r, E', H', k1, k2, hk r H' k3, k4⟩⟩
/-- What is handed in may be told otherwise. -/
def VLe (xs ys : List AV) : Prop := ∀ E vs, VRL E xs vs → VRL E ys vs
theorem ACall.args {f : Nat} {args args' : List AV} {H : Heap} {K : ARes → Heap → Prop} (h : ACall P f args' H K) (ha : VLe args args') : ACall P f args H K :=
  ⟨h.1, fun E w vs hR hv => h.2 E w vs hR (ha E _ hv)⟩
/-- What a call answers, told otherwise. -/
def GhR (n0 : Nat) (R : ARes → Heap → Prop) (x : ARes) (H : Heap) : Prop :=
  ∀ E0 w0 E w, E0.ρ.length = n0 → Ext E0 w0 E w → Rel E H w → ∃ E' x' H', Ext E0 w0 E' w ∧ Rel E' H' w ∧ R x' H' ∧
    match x, x' with
    | .ret x, .ret x' => ∀ v, VR E x v → VR E' x' v
    | .pan x, .pan x' => ∀ v, VR E x v → VR E' x' v
    | _, _ => False
theorem GhR.of {R : ARes → Heap → Prop} {x : ARes} {H : Heap} (h : R x H) : GhR n0 R x H := fun E0 w0 E w _ he hR => ⟨E, x, H, he, hR, h, by cases x <;> exact fun v hv => hv⟩
theorem ACall.gh {f : Nat} {args : List AV} {H : Heap} {K : ARes → Heap → Prop} (h : ACall P f args H (GhR H.length K)) : ACall P f args H K := by
  refine ⟨h.1, fun E w vs hR hv => (h.2 E w vs hR hv).mono fun e w' ⟨r, E', H', k1, k2, k3, k4⟩ => ?_⟩
  obtain ⟨E2, x', H2, l1, l2, l3, l4⟩ := k3 E w E' w' hR.len k1 k2
  refine ⟨x', E2, H2, l1, l2, l3, ?_⟩
  cases r with
  | ret x => cases x' with
    | ret x' => cases e <;> first | exact k4.elim | exact l4 _ k4
    | pan _ => exact l4.elim
  | pan x => cases x' with
    | ret _ => exact l4.elim
    | pan x' => cases e <;> first | exact k4.elim | (obtain ⟨v, hv, k4⟩ := k4; exact ⟨v, hv, l4 _ k4⟩)
/-- Blocks numbered anew. -/
theorem GhR.sel {R : ARes → Heap → Prop} {x : ARes} {H : Heap} (sel : List Nat) (hs : selB n0 H sel = true) (h : GhR n0 R (subR (selφ sel) x) (pick (selφ sel) H sel)) : GhR n0 R x H := by
  intro E0 w0 E w hn he hR
  obtain ⟨E1, h1, h2, h3, h4⟩ := hR.sel hn he hs
  obtain ⟨E2, x', H2, k1, k2, k3, k4⟩ := h E0 w0 E1 w hn h1 h2
  refine ⟨E2, x', H2, k1, k2, k3, ?_⟩
  have him : ∀ g o, E.Im g = some o → E1.Im g = some o := fun g o ho => by rw [h4]; exact ho
  cases x <;> cases x' <;> first | exact k4.elim | exact fun v hv => k4 v (VR.sub h3 him _ _ hv)
theorem GhR.frz {R : ARes → Heap → Prop} {x : ARes} {H : Heap} (j : Nat) {cs : List AV} (hj : H[j]? = some (.c cs)) (h : GhR n0 R (subR (frzφ j cs) x) (frzH j cs H)) : GhR n0 R x H := by
  intro E0 w0 E w hn he hR
  obtain ⟨E1, h1, h2, h3, h4⟩ := hR.freeze he hj
  obtain ⟨E2, x', H2, k1, k2, k3, k4⟩ := h E0 w0 E1 w hn h1 h2
  refine ⟨E2, x', H2, k1, k2, k3, ?_⟩
  cases x <;> cases x' <;> first | exact k4.elim | exact fun v hv => k4 v (VR.sub h3 h4.im _ _ hv)
/-- .. within a body. -/
def subG (φ : Nat → Sb) : Regs → Regs
  | [] => []
  | (t, v) :: r => (t, sub φ v) :: subG φ r
theorem subG_get {φ : Nat → Sb} : ∀ {r : Regs} {t : Nat} {v : AV}, getR (subG φ r) t = some v → ∃ u, getR r t = some u ∧ v = sub φ u
  | [], _, _, h => by cases h
  | (s, x) :: r, t, v, h => by
    unfold subG getR at h
    unfold getR
    split at h
    · rename_i hb; cases h; rw [if_pos hb]; exact ⟨_, rfl, rfl⟩
    · rename_i hb; rw [if_neg hb]; exact subG_get h
theorem Gh.sel {R : Regs → Heap → Prop} {r : Regs} {H : Heap} (sel : List Nat) (hs : selB n0 H sel = true) (h : Gh n0 nt R (subG (selφ sel) r) (pick (selφ sel) H sel)) : Gh n0 nt R r H := by
  intro E0 w0 E a w hb
  obtain ⟨E1, h1, h2, h3, h4⟩ := hb.rel.sel hb.len0 hb.ext hs
  refine h E0 w0 E1 a w ⟨hb.len0, h1, h2, ⟨hb.rr.size, fun t v ht => ?_⟩, hb.nd⟩
  obtain ⟨u, k1, rfl⟩ := subG_get ht
  exact ⟨(hb.rr.regs t u k1).1, VR.sub h3 (fun g o ho => by rw [h4]; exact ho) _ _ (hb.rr.regs t u k1).2⟩
theorem Gh.frz {R : Regs → Heap → Prop} {r : Regs} {H : Heap} (j : Nat) {cs : List AV} (hj : H[j]? = some (.c cs)) (h : Gh n0 nt R (subG (frzφ j cs) r) (frzH j cs H)) : Gh n0 nt R r H := by
  intro E0 w0 E a w hb
  obtain ⟨E1, h1, h2, h3, h4⟩ := hb.rel.freeze hb.ext hj
  refine h E0 w0 E1 a w ⟨hb.len0, h1, h2, ⟨hb.rr.size, fun t v ht => ?_⟩, hb.nd⟩
  obtain ⟨u, k1, rfl⟩ := subG_get ht
  exact ⟨(hb.rr.regs t u k1).1, VR.sub h3 h4.im _ _ (hb.rr.regs t u k1).2⟩
/-- Of the registers only some. -/
def keepR : List Nat → Regs → Regs
  | [], _ => []
  | t :: ts, r => match getR r t with
    | some v => (t, v) :: keepR ts r
    | none => keepR ts r
theorem keepR_get {r : Regs} : ∀ {ts : List Nat} {t : Nat} {v : AV}, getR (keepR ts r) t = some v → getR r t = some v
  | [], _, _, h => by cases h
  | s :: ts, t, v, h => by
    unfold keepR at h
    split at h
    · rename_i u hu
      unfold getR at h
      split at h
      · rename_i hb; have := Nat.eq_of_beq_eq_true hb; subst this; cases h; exact hu
      · exact keepR_get h
    · exact keepR_get h
theorem Gh.regs {R : Regs → Heap → Prop} {r : Regs} {H : Heap} (ts : List Nat) (h : Gh n0 nt R (keepR ts r) H) : Gh n0 nt R r H := fun E0 w0 E a w hb =>
  h E0 w0 E a w ⟨hb.len0, hb.ext, hb.rel, ⟨hb.rr.size, fun t v ht => hb.rr.regs t v (keepR_get ht)⟩, hb.nd⟩
theorem keep_eq {φ : Nat → Sb} {r r' q : Regs} (h : r = r') (h2 : subG φ r' = q) : subG φ r = q := by rw [h]; exact h2
theorem Gh.mono {R R' : Regs → Heap → Prop} {r : Regs} {H : Heap} (h : Gh n0 nt R r H) (hr : ∀ r H, R r H → R' r H) : Gh n0 nt R' r H := fun E0 w0 E a w hb => by
  obtain ⟨E', r', H', h1, h2⟩ := h E0 w0 E a w hb
  exact ⟨E', r', H', h1, hr _ _ h2⟩
end
theorem TOK_of {P : Program} {T : TT} (h : (T.all fun p => tiB P p.1 p.2) = true) : TOK P T := by
  intro t ti ht
  induction T with
  | nil => cases ht
  | cons p r ih =>
    obtain ⟨u, ui⟩ := p
    simp only [List.all_cons, Bool.and_eq_true] at h
    unfold tiOf at ht
    split at ht
    · rename_i hb; have := Nat.eq_of_beq_eq_true hb; subst this; cases ht; exact h.1
    · exact ih h.2 ht
/-- A row of numbers. -/
def nums (k : IntKind) (L : List Int) : List AV := L.map (.i k)
abbrev ints (L : List Int) : List AV := nums .i64 L
theorem nums_length (k : IntKind) (L : List Int) : (nums k L).length = L.length := by simp [nums]
theorem nums_append (k : IntKind) (L M : List Int) : nums k (L ++ M) = nums k L ++ nums k M := by simp [nums]
theorem nums_take (k : IntKind) (L : List Int) (n : Nat) : (nums k L).take n = nums k (L.take n) := by simp [nums]
theorem nums_drop (k : IntKind) (L : List Int) (n : Nat) : (nums k L).drop n = nums k (L.drop n) := by simp [nums]
theorem nums_set (k : IntKind) (L : List Int) (n : Nat) (x : Int) : (nums k L).set n (.i k x) = nums k (L.set n x) := by simp [nums, List.map_set]
theorem setCells_nums (k : IntKind) (L : List Int) (n : Nat) (x : Int) : setCells (nums k L) n (AV.i k x).cells = nums k (L.set n x) := nums_set k L n x
theorem nums_replicate (k : IntKind) (n : Nat) (x : Int) : (List.replicate n [AV.i k x]).flatten = nums k (List.replicate n x) := by simp [nums]
theorem aget_nums {k : IntKind} {L : List Int} {i : Nat} {K : AV → Prop} (h : i < L.length) (hk : K (.i k L[i])) : aget (nums k L) i K := by
  unfold aget
  have : (nums k L)[i]? = some (.i k L[i]) := by simp [nums, h]
  rw [this]; exact hk
theorem flats_nums (k : IntKind) : ∀ (L : List Int), flats (nums k L) = true
  | [] => rfl
  | x :: L => by
    have := flats_nums k L
    simp only [nums, List.map_cons, flats, flat, Bool.true_and] at this ⊢; exact this
theorem nros_nums (k : IntKind) : ∀ (L : List Int), nros (nums k L) = true
  | [] => rfl
  | x :: L => by
    have := nros_nums k L
    simp only [nums, List.map_cons, nros, nro, Bool.true_and] at this ⊢; exact this
theorem ones_nums (k : IntKind) : ∀ (L : List Int), ones (nums k L) = true
  | [] => rfl
  | x :: L => by
    have := ones_nums k L
    simp only [nums, List.map_cons, ones, AV.one, Bool.true_and] at this ⊢; exact this
theorem subs_nums (φ : Nat → Sb) (k : IntKind) : ∀ (L : List Int), subs φ (nums k L) = nums k L
  | [] => rfl
  | x :: L => by
    have := subs_nums φ k L
    simp only [nums, List.map_cons, subs, sub] at this ⊢; rw [this]
/-- A read slice, told from its own begin. -/
theorem VLe.rs {cs ds : List AV} {o z n : Nat} {xs ys : List AV} (hd : (cs.drop o).take ds.length = ds) (hl : ds.length ≤ (cs.drop o).length) (h : VLe xs ys) : VLe (.rs cs o z n :: xs) (.rs ds 0 z n :: ys) := by
  rintro E vs ⟨v, vs', h1, h2, h3⟩
  refine ⟨v, vs', h1, ?_, h E _ h3⟩
  rcases h2 with ⟨rfl, a, c, rfl⟩ | ⟨g, f, c, t, fz, cap, k1, rfl, k2, k3⟩
  · exact .inl ⟨rfl, _, _, rfl⟩
  · refine .inr ⟨g, f + o, c, t, fz, cap, k1, by simp, k2, ?_⟩
    have := ((k3.drop o).take ds.length hl).pfx (((c.toList.drop f).drop o).drop ds.length)
    rw [hd, List.take_append_drop, List.drop_drop] at this
    exact this
theorem VLe.cons {x : AV} {xs ys : List AV} (h : VLe xs ys) : VLe (x :: xs) (x :: ys) := by
  rintro E vs ⟨v, vs', h1, h2, h3⟩
  exact ⟨v, vs', h1, h2, h E _ h3⟩
theorem VLe.nil : VLe [] [] := fun _ _ h => h
end Go.AK
