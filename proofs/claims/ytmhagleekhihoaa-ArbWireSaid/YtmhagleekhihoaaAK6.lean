import Derived.Test.YtmhagleekhihoaaAK5
import Derived.Laws.Concat
namespace Go.AK
open Go Go.RowKit
set_option linter.unusedVariables false
section
variable {P : Program} {T : TT}
theorem abin_eq (hT : TOK P T) {E : Env} {op : BinOp} {t : Nat} {x y : Operand} {v u : AV} {a b : Value} {K : AV → Prop} (ha : VR E v a) (hb : VR E u b)
    (h : (op = .eql ∧ tiK T t fun ti => aeq (isConstB x || isConstB y) ti.d v u fun t => K (.b t)) ∨ (op = .neq ∧ tiK T t fun ti => aeq (isConstB x || isConstB y) ti.d v u fun t => K (.b (!t)))) :
    SilR P E (do eqGuard op t x y a b; binOp op t a b) K := by
  rcases h with ⟨rfl, h⟩ | ⟨rfl, h⟩
  · obtain ⟨ti, ht, h⟩ := tiK_some h
    obtain ⟨r, h1, h2⟩ := aeq_sound hT ht h ha hb
    exact SilR.of h1 rfl fun w => (h2 w).1
  · obtain ⟨ti, ht, h⟩ := tiK_some h
    obtain ⟨r, h1, h2⟩ := aeq_sound hT ht h ha hb
    exact SilR.of h1 rfl fun w => (h2 w).2
theorem abin_sound (hT : TOK P T) {E : Env} {op : BinOp} {t : Nat} {x y : Operand} {v u : AV} {a b : Value} {K : AV → Prop} (h : abin P T (isConstB x || isConstB y) op t v u K) (ha : VR E v a) (hb : VR E u b) :
    SilR P E (do eqGuard op t x y a b; binOp op t a b) K := by
  unfold abin at h
  split at h
  · rename_i k n k' m
    cases ha; cases hb
    have hg : ∀ w, (eqGuard op t x y (.int k n) (.int k' m)).run P w = .ok () w := fun w => by cases op <;> simp [eqGuard]
    split at h
    · exact SilR.of h.2 rfl fun w => by
        have := h.1
        have h0 : ¬ m < 0 := by omega
        simp only [Sem.run_bind, hg, Result.andThen_ok]
        simp [binOp, Op.shift, h0]
    · exact SilR.of h.2 rfl fun w => by
        have := h.1
        have h0 : ¬ m < 0 := by omega
        simp only [Sem.run_bind, hg, Result.andThen_ok]
        simp [binOp, Op.shift, h0]
    · rename_i ho ho'
      replace h := acond_true h
      obtain ⟨hb, h⟩ := h
      obtain rfl := of_decide_eq_true hb
      obtain ⟨z, v, h1, h2, h3⟩ := aint_sound (P := P) (E := E) h t ho ho'
      exact ⟨z, v, h1, h2, fun w hw => by simp only [Sem.run_bind, hg, Result.andThen_ok]; exact h3 w hw⟩
  · rename_i p q
    cases ha; cases hb
    have hg : ∀ w, (eqGuard op t x y (.string p) (.string q)).run P w = .ok () w := fun w => by cases op <;> simp [eqGuard]
    split at h
    · exact SilR.of h.2 rfl fun w => by
        have h1 := h.1
        simp only [Sem.run_bind, hg, Result.andThen_ok, binOp]
        exact run_string_add_sum w p q h1
    · exact SilR.of h rfl fun w => by simp only [Sem.run_bind, hg, Result.andThen_ok, binOp, Op.stringOp]; rfl
    · exact SilR.of h rfl fun w => by simp only [Sem.run_bind, hg, Result.andThen_ok, binOp, Op.stringOp]; rfl
    · exact SilR.of h rfl fun w => by simp only [Sem.run_bind, hg, Result.andThen_ok, binOp, Op.stringOp]; rfl
    · exact h.elim
  · rename_i xs ys
    obtain ⟨as, rfl, ha⟩ := ha
    obtain ⟨bs, rfl, hb⟩ := hb
    have hl := ha.length
    split at h
    · obtain ⟨hf, h⟩ := h
      obtain ⟨r, h1, h2, h3, h4⟩ := eqL_sound h ha hb
      have hr := fun w => hf as bs w r (by simpa using hl) (by rw [← Array.length_toList, ← h3]; exact hl) h4 h2
      exact SilR.of h1 rfl fun w => by
        have he : (Op.equal t (.agg as) (.agg bs)).run P w = .ok r w := (hr w).1
        simp only [Sem.run_bind, (hr w).2, Result.andThen_ok, binOp, he]; rfl
    · obtain ⟨hf, h⟩ := h
      obtain ⟨r, h1, h2, h3, h4⟩ := eqL_sound h ha hb
      have hr := fun w => hf as bs w r (by simpa using hl) (by rw [← Array.length_toList, ← h3]; exact hl) h4 h2
      exact SilR.of h1 rfl fun w => by
        have he : (Op.equal t (.agg as) (.agg bs)).run P w = .ok r w := (hr w).1
        simp only [Sem.run_bind, (hr w).2, Result.andThen_ok, binOp, he]; rfl
    · exact h.elim
  · cases op <;> first | exact abin_eq hT ha hb (.inl ⟨rfl, h⟩) | exact abin_eq hT ha hb (.inr ⟨rfl, h⟩) | exact h.elim
def OptR (E : Env) : Option AV → Option Value → Prop
  | none, none => True
  | some x, some v => VR E x v
  | _, _ => False
theorem OptR.none' {E : Env} {v : Option Value} (h : OptR E none v) : v = none := by cases v <;> first | rfl | exact h.elim
theorem OptR.some' {E : Env} {x : AV} {v : Option Value} (h : OptR E (some x) v) : ∃ u, v = some u ∧ VR E x u := by cases v <;> first | exact ⟨_, rfl, h⟩ | exact h.elim
theorem abounds_sound {E : Env} {lo hi : Option AV} {n c : Nat} {k : Nat → Nat → Prop} (h : abounds lo hi n c k) (hnc : n ≤ c) {lo' hi' : Option Value}
    (hl : OptR E lo lo') (hh : OptR E hi hi') (isS : Bool) :
    ∃ l r, k l r ∧ l ≤ r ∧ r ≤ c ∧ (hi = none → r = n) ∧ ∀ w, (Instr.sliceBounds isS n c lo' hi' none).run P w = .ok (l, r, c) w := by
  unfold abounds at h
  split at h
  · obtain rfl := hl.none'
    obtain rfl := hh.none'
    exact ⟨0, n, h, by omega, hnc, fun _ => rfl, fun w => rfl⟩
  · obtain ⟨_, rfl, hv⟩ := hl.some'
    skip
    obtain rfl := hh.none'
    cases hv
    exact ⟨_, n, h.2, by omega, hnc, fun _ => rfl, fun w => by simp [Instr.sliceBounds, Instr.sliceBound, asIntOf, h.1.1, h.1.2]⟩
  · obtain rfl := hl.none'
    obtain ⟨_, rfl, hv⟩ := hh.some'
    cases hv
    exact ⟨0, _, h.2, by omega, by omega, nofun, fun w => by simp [Instr.sliceBounds, Instr.sliceBound, asIntOf, h.1.1, h.1.2]⟩
  · obtain ⟨_, rfl, hv⟩ := hl.some'
    cases hv
    obtain ⟨_, rfl, hv⟩ := hh.some'
    cases hv
    rename_i a _ b
    obtain ⟨⟨h1, h2, h3⟩, h⟩ := h
    have h4 : (0 : Int) ≤ b := by omega
    have h5 : max b 0 = b := by omega
    exact ⟨_, _, h, by omega, by omega, nofun, fun w => by simp [Instr.sliceBounds, Instr.sliceBound, asIntOf, h1, h2, h3, h4, h5]⟩
  · exact h.elim
theorem aopt_sound {nt : Nat} {E : Env} {r : Regs} {a : Act} (hr : RR nt E r a) {o : Option Operand} {K : Option AV → Prop} (h : aopt r o K) :
    ∃ x, K x ∧ OptR E x (o.map a.eval) := by
  unfold aopt at h
  split at h
  · exact ⟨none, h, trivial⟩
  · obtain ⟨x, h1, h2⟩ := evalK_sound hr h
    exact ⟨some x, h2, h1⟩
theorem aslice_sound (hT : TOK P T) {E : Env} {t : Nat} {ti : TI} (ht : tiOf T t = some ti) {sz : Nat} (hsz : ∀ e, ti.d = .sl e ∨ (∃ n, ti.d = .arr n e) → ∀ w, (sizeOf e).run P w = .ok sz w) {v : AV} {a : Value} {lo hi : Option AV} {K : AV → Prop} (h : aslice ti sz v lo hi K) (hv : VR E v a) {lo' hi' : Option Value}
    (hl : OptR E lo lo') (hh : OptR E hi hi') :
    SilR P E (Instr.sliceAt t a lo' hi' none) K := by
  obtain ⟨d, hd, hdd⟩ := hT.desc ht
  unfold aslice at h
  generalize ti.d = D at h hdd hsz
  split at h
  · obtain rfl := desc_str hdd
    cases hv
    rename_i s
    obtain ⟨l, r, h1, h2, h3, _, h4⟩ := abounds_sound (P := P) h (Nat.le_refl _) hl hh false
    exact SilR.of h1 rfl fun w => by simp [Instr.sliceAt, Instr.slice, run_underlying hd, h4]
  · rename_i e j o z n c
    obtain rfl := desc_sl hdd
    replace h := acond_true h
    obtain ⟨hb, h⟩ := h
    obtain rfl := Nat.eq_of_beq_eq_true hb
    obtain ⟨g, f, q, o', h5, rfl, h6, h7⟩ := hv
    obtain ⟨l, r, h1, h2, h3, _, h4⟩ := abounds_sound (P := P) h h6 hl hh true
    have hs := hsz e (.inl rfl)
    refine SilR.of h1 (v := .slice (if c = l then some ⟨g, o', none⟩ else some ⟨g, o' + l * z, none⟩) (r - l) (c - l)) ?_ fun w => ?_
    · by_cases e : c = l
      · rw [if_pos e]; exact ⟨g, f, q, o', h5, rfl, by omega, .inr (by omega)⟩
      · rw [if_neg e]
        refine ⟨g, f, q, _, h5, rfl, by omega, ?_⟩
        rcases h7 with ⟨rfl, h7⟩ | h7
        · refine .inl ⟨by omega, ?_⟩
          have : l * z + (c - l) * z = c * z := by rw [← Nat.add_mul]; congr 1; omega
          omega
        · omega
    · simp only [Instr.sliceAt, Instr.slice, Sem.run_bind, run_underlying hd, Result.andThen_ok, h4, hs]
      by_cases e : c = l
      · simp [e]
      · simp [e, add_zero_addr]
  · rename_i e z n c
    obtain rfl := desc_sl hdd
    obtain ⟨rfl, rfl, rfl⟩ := hv
    obtain ⟨l, r, h1, h2, h3, _, h4⟩ := abounds_sound (P := P) h (Nat.le_refl _) hl hh true
    have hs := hsz e (.inl rfl)
    have el : l = 0 := by omega
    have er : r = 0 := by omega
    subst el; subst er
    exact SilR.of h1 (v := .slice none 0 0) ⟨rfl, rfl, rfl⟩ fun w => by simp [Instr.sliceAt, Instr.slice, run_underlying hd, h4, hs]
  · rename_i e cs o z n
    obtain rfl := desc_sl hdd
    replace h := acond_true h
    obtain ⟨hb, h⟩ := h
    obtain rfl := Nat.eq_of_beq_eq_true hb
    have hs := hsz e (.inl rfl)
    rcases hv with ⟨rfl, a, c, rfl⟩ | ⟨g, f, c, t', fz, cap, h5, rfl, h6, h7⟩
    · obtain ⟨l, r, h1, h2, h3, hn, h9⟩ := abounds_sound (P := P) h (Nat.le_refl _) hl hh true
      have el : l = 0 := by omega
      have er : r = 0 := by omega
      subst el; subst er
      have h8 : ∀ w, (Instr.sliceBounds true 0 c lo' hi' none).run P w = .ok (0, 0, c) w := by
        have hc := h
        unfold abounds at h
        split at h
        · obtain rfl := hl.none'
          obtain rfl := hh.none'
          exact fun w => rfl
        · obtain ⟨_, rfl, hv⟩ := hl.some'
          skip
          obtain rfl := hh.none'
          cases hv
          rename_i a0
          obtain ⟨⟨p1, p2⟩, _⟩ := h
          have : a0 = 0 := by omega
          subst this
          exact fun w => by simp [Instr.sliceBounds, Instr.sliceBound, asIntOf]
        · obtain rfl := hl.none'
          obtain ⟨_, rfl, hv⟩ := hh.some'
          cases hv
          rename_i a0
          obtain ⟨⟨p1, p2⟩, _⟩ := h
          have : a0 = 0 := by omega
          subst this
          exact fun w => by simp [Instr.sliceBounds, Instr.sliceBound, asIntOf]
        · obtain ⟨_, rfl, hv⟩ := hl.some'
          cases hv
          obtain ⟨_, rfl, hv⟩ := hh.some'
          cases hv
          rename_i a0 _ b0
          obtain ⟨⟨p1, p2, p3⟩, _⟩ := h
          have : a0 = 0 := by omega
          subst this
          have : b0 = 0 := by omega
          subst this
          exact fun w => by simp [Instr.sliceBounds, Instr.sliceBound, asIntOf]
        · exact h.elim
      refine SilR.of h1 (v := .slice (if c = 0 then a else a.map (·.add (0 * z))) 0 (c - 0)) (.inl ⟨rfl, _, _, rfl⟩) fun w => ?_
      simp [Instr.sliceAt, Instr.slice, run_underlying hd, h8, hs]
    · have h' : ∃ l r, K (.rs cs (o + l * z) z (r - l)) ∧ l ≤ r ∧ r ≤ n ∧ ∀ w, (Instr.sliceBounds true n cap lo' hi' none).run P w = .ok (l, r, cap) w := by
        unfold abounds at h
        split at h
        · obtain rfl := hl.none'
          obtain rfl := hh.none'
          exact ⟨0, n, h, by omega, by omega, fun w => rfl⟩
        · obtain ⟨_, rfl, hv⟩ := hl.some'
          skip
          obtain rfl := hh.none'
          cases hv
          exact ⟨_, n, h.2, by omega, by omega, fun w => by simp [Instr.sliceBounds, Instr.sliceBound, asIntOf, h.1.1, h.1.2]⟩
        · obtain rfl := hl.none'
          obtain ⟨_, rfl, hv⟩ := hh.some'
          cases hv
          rename_i a0
          obtain ⟨⟨p1, p2⟩, h⟩ := h
          have p3 : a0 ≤ (cap : Int) := by omega
          exact ⟨0, _, h, by omega, by omega, fun w => by simp [Instr.sliceBounds, Instr.sliceBound, asIntOf, p1, p3]⟩
        · obtain ⟨_, rfl, hv⟩ := hl.some'
          cases hv
          obtain ⟨_, rfl, hv⟩ := hh.some'
          cases hv
          rename_i a0 _ b0
          obtain ⟨⟨p1, p2, p3⟩, h⟩ := h
          have p4 : (0 : Int) ≤ b0 := by omega
          have p5 : b0 ≤ (cap : Int) := by omega
          have p6 : max b0 0 = b0 := by omega
          exact ⟨_, _, h, by omega, by omega, fun w => by simp [Instr.sliceBounds, Instr.sliceBound, asIntOf, p1, p2, p4, p5, p6]⟩
        · exact h.elim
      obtain ⟨l, r, h1, h2, h3, h4⟩ := h'
      refine SilR.of h1 (v := .slice (if cap = l then some ⟨g, f + o, none⟩ else some ⟨g, f + o + l * z, none⟩) (r - l) (cap - l)) ?_ fun w => ?_
      · by_cases e : cap = l
        · rw [if_pos e]
          have e0 : r - l = 0 := by omega
          rw [e0]
          exact .inl ⟨rfl, _, _, rfl⟩
        · rw [if_neg e]
          exact .inr ⟨g, f, c, t', fz, cap - l, h5, by rw [Nat.add_assoc], by omega, h7⟩
      · simp only [Instr.sliceAt, Instr.slice, Sem.run_bind, run_underlying hd, Result.andThen_ok, h4, hs]
        by_cases e : cap = l
        · simp [e]
        · simp [e, add_zero_addr]
  · rename_i n e cs o
    obtain rfl := desc_arr hdd
    replace h := acond_true h
    obtain ⟨hb, h⟩ := h
    obtain rfl := Nat.eq_of_beq_eq_true hb
    have hs := hsz e (.inr ⟨n, rfl⟩)
    obtain ⟨g, f, c, t', fz, h5, rfl, h6⟩ := hv
    obtain ⟨l, r, h1, h2, h3, _, h4⟩ := abounds_sound (P := P) h (Nat.le_refl _) hl hh false
    refine SilR.of h1 (v := .slice (if n = l then some ⟨g, f + o, none⟩ else some ⟨g, f + o + l, none⟩) (r - l) (n - l)) ?_ fun w => ?_
    · by_cases e : n = l
      · rw [if_pos e]
        have e0 : r - l = 0 := by omega
        rw [e0]
        exact .inl ⟨rfl, _, _, rfl⟩
      · rw [if_neg e]
        exact .inr ⟨g, f, c, t', fz, n - l, h5, by rw [Nat.add_assoc], by omega, h6⟩
    · simp only [Instr.sliceAt, Instr.sureAddr, Sem.run_bind, run_underlying hd, Result.andThen_ok, h4, hs]
      by_cases e : n = l
      · simp [e]
      · simp [e, add_zero_addr]
  · exact h.elim
end
end Go.AK
