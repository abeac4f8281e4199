import Derived.Test.YtmhagleekhihoaaAK4
namespace Go.AK
open Go Go.RowKit
set_option linter.unusedVariables false
/-- What is never written lies there. -/
def ImOK (E : Env) (w : World) : Prop := ∀ g o, E.Im g = some o → w.heap[g]? = some o
/-- A value is come to, in whatever world. -/
def SilR (P : Program) (E : Env) (s : Sem Value) (K : AV → Prop) : Prop :=
  ∃ y v, VR E y v ∧ K y ∧ ∀ w, ImOK E w → s.run P w = .ok v w
section
variable {P : Program} {T : TT}
theorem SilR.of {E : Env} {s : Sem Value} {K : AV → Prop} {y : AV} {v : Value} (hk : K y) (hv : VR E y v) (h : ∀ w, s.run P w = .ok v w) : SilR P E s K := ⟨y, v, hv, hk, fun w _ => h w⟩
theorem aint_sound {E : Env} {op : BinOp} {k : IntKind} {a b : Int} {K : AV → Prop} (h : aint op k a b K) (t : Nat) (ho : op ≠ .shl) (ho' : op ≠ .shr) : SilR P E (binOp op t (.int k a) (.int k b)) K := by
  cases op <;> simp only [aint] at h <;> first | exact absurd rfl ho | exact absurd rfl ho' | skip
  all_goals first
    | exact SilR.of h rfl fun w => by simp [binOp, Op.intArith, Op.intBits, Op.intCmp, bits]; done
    | exact SilR.of h rfl fun w => by simp [binOp, Op.intArith, Op.intBits, Op.intCmp, bits]; rfl
    | exact SilR.of h.2 rfl fun w => by simp [binOp, Op.intDiv, h.1]; done
theorem VRL.cons_inv {E : Env} {x : AV} {xs : List AV} {vs : List Value} (h : VRL E (x :: xs) vs) : ∃ v vs', vs = v :: vs' ∧ VR E x v ∧ VRL E xs vs' := h
theorem eqS_sound {E : Env} {x y : AV} {v u : Value} {K : Bool → Prop} (h : eqS x y K) (hx : VR E x v) (hy : VR E y u) :
    ∃ t, K t ∧ (t = true ↔ v = u) ∧ ((∃ k a b, v = .int k a ∧ u = .int k b) ∨ (∃ a b, v = .bool a ∧ u = .bool b)) := by
  unfold eqS at h
  split at h
  · replace h := acond_true h
    obtain ⟨hb, h⟩ := h
    obtain rfl := of_decide_eq_true hb
    cases hx; cases hy
    exact ⟨_, h, by simp, .inl ⟨_, _, _, rfl, rfl⟩⟩
  · cases hx; cases hy
    exact ⟨_, h, by simp, .inr ⟨_, _, rfl, rfl⟩⟩
  · exact h.elim
theorem eqL_sound {E : Env} : ∀ {xs ys : List AV} {vs us : List Value} {K : Bool → Prop}, eqL xs ys K → VRL E xs vs → VRL E ys us →
    ∃ t, K t ∧ (t = true ↔ ∀ (i : Nat) v u, vs[i]? = some v → us[i]? = some u → v = u) ∧ vs.length = us.length ∧
      (∀ (i : Nat) v u, vs[i]? = some v → us[i]? = some u → (∃ k a b, v = .int k a ∧ u = .int k b) ∨ (∃ a b, v = .bool a ∧ u = .bool b))
  | [], [], vs, us, K, h, hx, hy => by
    cases hx; cases hy
    exact ⟨true, h, by simp, rfl, by simp⟩
  | [], _ :: _, _, _, _, h, _, _ => h.elim
  | _ :: _, [], _, _, _, h, _, _ => h.elim
  | x :: xs, y :: ys, vs, us, K, h, ⟨v, vs', h1, h2, h3⟩, ⟨u, us', k1, k2, k3⟩ => by
    subst h1; subst k1
    obtain ⟨t, h4, h5, h6⟩ := eqS_sound h h2 k2
    obtain ⟨t', h7, h8, h9, h10⟩ := eqL_sound h4 h3 k3
    refine ⟨t && t', h7, ?_, by simp [h9], ?_⟩
    · rw [Bool.and_eq_true, h5, h8]
      constructor
      · rintro ⟨rfl, hh⟩ i p q hp hq
        cases i with
        | zero => simp at hp hq; rw [← hp, ← hq]
        | succ i => exact hh i p q (by simpa using hp) (by simpa using hq)
      · intro hh
        exact ⟨hh 0 _ _ rfl rfl, fun i p q hp hq => hh (i + 1) p q (by simpa using hp) (by simpa using hq)⟩
    · intro i p q hp hq
      cases i with
      | zero => simp at hp hq; subst hp; subst hq; exact h6
      | succ i => exact h10 i p q (by simpa using hp) (by simpa using hq)
theorem desc_bool {u : TypeDesc} (h : descB .bool u = true) : u = .bool := by cases u <;> first | rfl | cases h
theorem desc_ptr {p : Nat} {u : TypeDesc} (h : descB (.ptr p) u = true) : ∃ e, u = .pointer e := by cases u <;> first | exact ⟨_, rfl⟩ | cases h
theorem desc_fn {u : TypeDesc} (h : descB .fn u = true) : ∃ a b c, u = .func a b c := by cases u <;> first | exact ⟨_, _, _, rfl⟩ | cases h
theorem desc_ifc {u : TypeDesc} (h : descB .ifc u = true) : ∃ a, u = .interface a := by cases u <;> first | exact ⟨_, rfl⟩ | cases h
theorem eq_help {t : Nat} {x y : Operand} {a b : Value} {r : Bool} (he : ∀ k w, (Op.equalIn (k + 1) t a b).run P w = .ok r w) (hg : ∀ op w, (eqGuard op t x y a b).run P w = .ok () w)
    (h1 : binOp .eql t a b = (do pure (.bool (← Op.equal t a b)))) (h2 : binOp .neq t a b = (do pure (.bool (!(← Op.equal t a b))))) (w : World) :
    (do eqGuard .eql t x y a b; binOp .eql t a b : Sem Value).run P w = .ok (.bool r) w ∧ (do eqGuard .neq t x y a b; binOp .neq t a b : Sem Value).run P w = .ok (.bool (!r)) w := by
  have h3 : (Op.equal t a b).run P w = .ok r w := he 9999 w
  rw [h1, h2]
  simp only [Sem.run_bind, hg, Result.andThen_ok, h3]
  exact ⟨rfl, rfl⟩
/-- '==' and '!=' of two values. -/
theorem aeq_sound (hT : TOK P T) {E : Env} {t : Nat} {ti : TI} (ht : tiOf T t = some ti) {x y : Operand} {v u : AV} {a b : Value} {K : Bool → Prop} (h : aeq (isConstB x || isConstB y) ti.d v u K) (ha : VR E v a) (hb : VR E u b) :
    ∃ r, K r ∧ ∀ w, (do eqGuard .eql t x y a b; binOp .eql t a b : Sem Value).run P w = .ok (.bool r) w ∧ (do eqGuard .neq t x y a b; binOp .neq t a b : Sem Value).run P w = .ok (.bool (!r)) w := by
  obtain ⟨d, hd, hdd⟩ := hT.desc ht
  generalize ti.d = D at h hdd
  unfold aeq at h
  split at h
  · obtain rfl := desc_bool hdd
    cases ha; cases hb
    exact ⟨_, h, eq_help (fun k w => by simp [Op.equalIn, run_underlying hd]) (fun op w => by simp [eqGuard]) rfl rfl⟩
  · rename_i _ q
    obtain ⟨_, rfl⟩ := desc_ptr hdd
    cases ha
    rcases q with _ | ⟨j, o⟩
    · cases hb; exact ⟨_, h, eq_help (fun k w => by simp [Op.equalIn, run_underlying hd]) (fun op w => by simp [eqGuard]) rfl rfl⟩
    · obtain ⟨g, f, q, _, rfl⟩ := hb
      exact ⟨_, h, eq_help (fun k w => by simp [Op.equalIn, run_underlying hd]) (fun op w => by simp [eqGuard]) rfl rfl⟩
  · rename_i q
    obtain ⟨_, rfl⟩ := desc_ptr hdd
    cases hb; rcases q with ⟨j, o⟩; obtain ⟨g, f, q, _, rfl⟩ := ha
    exact ⟨_, h, eq_help (fun k w => by simp [Op.equalIn, run_underlying hd]) (fun op w => by simp [eqGuard]) rfl rfl⟩
  · obtain ⟨_, rfl⟩ := desc_ptr hdd
    cases hb; obtain ⟨g, f, c, t', fz, _, rfl, _⟩ := ha
    exact ⟨_, h, eq_help (fun k w => by simp [Op.equalIn, run_underlying hd]) (fun op w => by simp [eqGuard]) rfl rfl⟩
  · obtain ⟨_, rfl⟩ := desc_ptr hdd
    cases ha; obtain ⟨g, f, c, t', fz, _, rfl, _⟩ := hb
    exact ⟨_, h, eq_help (fun k w => by simp [Op.equalIn, run_underlying hd]) (fun op w => by simp [eqGuard]) rfl rfl⟩
  · rename_i q _ _ _
    obtain rfl := desc_sl hdd
    obtain ⟨_, _, rfl⟩ := ha
    rcases q with _ | ⟨j, o⟩
    · obtain ⟨_, _, rfl⟩ := hb; exact ⟨_, h, eq_help (fun k w => by simp [Op.equalIn, run_underlying hd]) (fun op w => by simp [eqGuard]) rfl rfl⟩
    · obtain ⟨g, f, q, o', _, rfl, _⟩ := hb
      exact ⟨_, h, eq_help (fun k w => by simp [Op.equalIn, run_underlying hd]) (fun op w => by simp [eqGuard]) rfl rfl⟩
  · obtain rfl := desc_sl hdd
    rename_i q _ _ _ _ _ _; rcases q with ⟨j, o⟩; obtain ⟨_, _, rfl⟩ := hb; obtain ⟨g, f, q, o', _, rfl, _⟩ := ha
    exact ⟨_, h, eq_help (fun k w => by simp [Op.equalIn, run_underlying hd]) (fun op w => by simp [eqGuard]) rfl rfl⟩
  · obtain ⟨_, _, _, rfl⟩ := desc_fn hdd
    cases ha; cases hb
    exact ⟨_, h, eq_help (fun k w => by simp [Op.equalIn, run_underlying hd]) (fun op w => by simp [eqGuard]) rfl rfl⟩
  · obtain ⟨_, _, _, rfl⟩ := desc_fn hdd
    cases ha; obtain ⟨_, _, rfl, _⟩ := hb
    exact ⟨_, h, eq_help (fun k w => by simp [Op.equalIn, run_underlying hd]) (fun op w => by simp [eqGuard]) rfl rfl⟩
  · obtain ⟨_, _, _, rfl⟩ := desc_fn hdd
    cases hb; obtain ⟨_, _, rfl, _⟩ := ha
    exact ⟨_, h, eq_help (fun k w => by simp [Op.equalIn, run_underlying hd]) (fun op w => by simp [eqGuard]) rfl rfl⟩
  · obtain ⟨_, rfl⟩ := desc_ifc hdd
    cases ha; obtain ⟨_, rfl, _⟩ := hb
    exact ⟨_, h, eq_help (fun k w => by simp [Op.equalIn, run_underlying hd]) (fun op w => by simp [eqGuard]) rfl rfl⟩
  · obtain ⟨_, rfl⟩ := desc_ifc hdd
    cases hb; obtain ⟨_, rfl, _⟩ := ha
    exact ⟨_, h, eq_help (fun k w => by simp [Op.equalIn, run_underlying hd]) (fun op w => by simp [eqGuard]) rfl rfl⟩
  · obtain ⟨_, rfl⟩ := desc_ifc hdd
    cases ha; cases hb
    obtain ⟨hc, h⟩ := acond_true h
    refine ⟨_, h, eq_help (fun k w => by simp [Op.equalIn, run_underlying hd]) (fun op w => ?_) rfl rfl⟩
    cases x <;> cases y <;> first | (simp [isConstB] at hc; done) | simp [eqGuard]
  · exact h.elim
end
end Go.AK
