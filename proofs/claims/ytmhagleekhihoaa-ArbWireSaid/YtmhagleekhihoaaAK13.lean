import Derived.Test.YtmhagleekhihoaaAK12
import Derived.Scope
namespace Go.AK
open Go Go.RowKit
set_option linter.unusedVariables false
/-- How a way out is told. -/
def XR (E : Env) : AX → Exit → Prop
  | .normal, .normal => True
  | .exit i, .exit j => i = j
  | .ret, .ret => True
  | .panic x, .panic chain => ∃ v, chain = [{ v, recovered := false }] ∧ VR E x v
  | _, _ => False
/-- The state within a function's body: n0 blocks were there when it began. -/
structure BR (n0 nt : Nat) (E0 : Env) (w0 : World) (E : Env) (r : Regs) (H : Heap) (a : Act) (w : World) : Prop where
  len0 : E0.ρ.length = n0
  ext : Ext E0 w0 E w
  rel : Rel E H w
  rr : RR nt E r a
  nd : a.defers = []
def Post (n0 nt : Nat) (E0 : Env) (w0 : World) (Q : AX → Regs → Heap → Prop) : Exit → Act → World → Prop :=
  fun e a w => ∃ x E r H, XR E x e ∧ BR n0 nt E0 w0 E r H a w ∧ Q x r H
/-- What a piece of code does, said of the abstract state. -/
def SW (P : Program) (n0 nt : Nat) (c : Code) (r : Regs) (H : Heap) (Q : AX → Regs → Heap → Prop) : Prop :=
  ∀ E0 w0 E a w, BR n0 nt E0 w0 E r H a w → c.wp P (Post n0 nt E0 w0 Q) a w
structure ALoop (P : Program) (n0 nt : Nat) (c : Code) (r : Regs) (H : Heap) (Q : AX → Regs → Heap → Prop) : Prop where
  out : SW P n0 nt (.loop c) r H Q
structure ADraw (P : Program) (n0 nt : Nat) (ops : Array Oper) (r : Regs) (H : Heap) (Q : AX → Regs → Heap → Prop) : Prop where
  out : ∀ id, SW P n0 nt (.region id ops true) r H Q
def AW (P : Program) (T : TT) (ip : Bool) (n0 nt : Nat) : Code → Regs → Heap → (AX → Regs → Heap → Prop) → Prop
  | .skip, r, H, Q => Q .normal r H
  | .region _ ops draw, r, H, Q => match draw with
    | false => aops P T ip nt ops Q ops.toList r H
    | true => ADraw P n0 nt ops r H Q
  | .seq x y, r, H, Q => AW P T ip n0 nt x r H fun e r H => match e with
    | .normal => AW P T ip n0 nt y r H Q
    | .exit i => Q (.exit i) r H
    | .ret => Q .ret r H
    | .panic v => Q (.panic v) r H
  | .cond c x y, r, H, Q => evalK r c fun v => match v with
    | .b t => acond t (AW P T ip n0 nt x r H Q) (AW P T ip n0 nt y r H Q)
    | _ => False
  | .block id c, r, H, Q => AW P T ip n0 nt c r H fun e r H => match e with
    | .exit i => acond (Nat.beq i id) (Q .normal r H) (Q (.exit i) r H)
    | .normal => Q .normal r H
    | .ret => Q .ret r H
    | .panic v => Q (.panic v) r H
  | .loop c, r, H, Q => ALoop P n0 nt c r H Q
  | .exit id, r, H, Q => Q (.exit id) r H
  | .ret, r, H, Q => Q .ret r H
  | .scope c, r, H, Q => AW P T ip n0 nt c r H Q
  | .label _, r, H, Q => Q .normal r H
  | _, _, _, _ => False
section
variable {P : Program} {T : TT} {ip : Bool} {n0 nt : Nat}
theorem RR.mono {E E' : Env} {r : Regs} {a : Act} (h : RR nt E r a) (k : E.le E') : RR nt E' r a := ⟨h.size, fun t v ht => ⟨(h.regs t v ht).1, (h.regs t v ht).2.mono k⟩⟩
theorem RR.put {E : Env} {r : Regs} {a : Act} (h : RR nt E r a) {d : Nat} (hd : d < nt) {x : AV} {v : Value} (hv : VR E x v) : RR nt E ((d, x) :: r) (a.put (some d) v) := by
  refine ⟨by simpa [Act.put] using h.size, fun t u ht => ?_⟩
  unfold getR at ht
  split at ht
  · rename_i hb
    have e : d = t := Nat.eq_of_beq_eq_true hb
    subst e
    cases ht
    refine ⟨hd, ?_⟩
    have : (a.put (some d) v).tmps.getD d undef = v := by
      simp [Act.put, h.size, hd]
    rw [this]; exact hv
  · rename_i hb
    have e : d ≠ t := fun e => by subst e; simp at hb
    have h1 := h.regs t u ht
    refine ⟨h1.1, ?_⟩
    have : (a.put (some d) v).tmps.getD t undef = a.tmps.getD t undef := by
      simp [Act.put, Array.getElem?_setIfInBounds_ne e]
    rw [this]; exact h1.2
theorem BR.step {E0 E E' : Env} {w0 w w' : World} {r : Regs} {H H' : Heap} {a : Act} (h : BR n0 nt E0 w0 E r H a w) (he : Ext E w E' w') (hR : Rel E' H' w') : BR n0 nt E0 w0 E' r H' a w' :=
  ⟨h.len0, h.ext.trans he, hR, h.rr.mono he.le, h.nd⟩
theorem putD_sound {E0 E : Env} {w0 w : World} {r : Regs} {H : Heap} {a : Act} (h : BR n0 nt E0 w0 E r H a w) {d : Option Nat} {x : AV} {v : Value} (hv : VR E x v) {K : Regs → Prop} (hk : putD nt d x r K) :
    ∃ r', K r' ∧ BR n0 nt E0 w0 E r' H (a.put d v) w := by
  unfold putD at hk
  split at hk
  · rename_i d
    obtain ⟨hb, hk⟩ := acond_true hk
    have hd : d < nt := Nat.lt_of_succ_le (Nat.le_of_ble_eq_true hb)
    exact ⟨_, hk, h.len0, h.ext, h.rel, h.rr.put hd hv, h.nd⟩
  · exact ⟨r, hk, h⟩
theorem astep_sound (hT : TOK P T) {E0 E : Env} {w0 w : World} {r : Regs} {H : Heap} {a : Act} (h : BR n0 nt E0 w0 E r H a w) {all : Array Oper} {o : Oper} {K : ARes → Regs → Heap → Prop} (hk : astep P T ip nt all r H o K)
    {next : Act → World → Prop} {Q : Exit → Act → World → Prop}
    (hn : ∀ x r' H' E' a' w', K (.ret x) r' H' → BR n0 nt E0 w0 E' r' H' a' w' → next a' w')
    (hp : ∀ x r' H' E' w' v, K (.pan x) r' H' → BR n0 nt E0 w0 E' r' H' a w' → VR E' x v → Q (.panic [{ v, recovered := false }]) a w') :
    if Region.wanted o (yielded all a.tmps) then o.wp P a w next Q else next (a.put o.dst undef) w := by
  have run : ∀ (hk : aop P T ip r H o.op fun v H' => match v with
      | .ret v => putD nt o.dst v r fun r' => K (.ret v) r' H'
      | .pan v => K (.pan v) r H'), o.wp P a w next Q := fun hk => by
    refine aop_sound hT h.rr h.rel ⟨fun x H' E' w' v k1 k2 k3 k4 => ?_, fun x H' E' w' v k1 k2 k3 k4 => ?_⟩ ip hk
    · obtain ⟨r', k5, k6⟩ := putD_sound (h.step k2 k3) k4 k1
      exact hn _ _ _ _ _ _ k5 k6
    · exact hp _ _ _ _ _ _ k1 (h.step k2 k3) k4
  have skip : ∀ (hk : putD nt o.dst (.tup []) r fun r' => K (.ret (.tup [])) r' H), next (a.put o.dst undef) w := fun hk => by
    obtain ⟨r', k5, k6⟩ := putD_sound h (x := .tup []) (v := undef) ⟨#[], rfl, rfl⟩ hk
    exact hn _ _ _ _ _ _ k5 k6
  unfold astep at hk
  cases hg : o.guard with
  | none =>
    rw [hg] at hk
    have hw : Region.wanted o (yielded all a.tmps) = true := by simp [Region.wanted, hg]
    rw [if_pos hw]; exact run hk
  | some p =>
    obtain ⟨j, want⟩ := p
    rw [hg] at hk
    simp only at hk
    cases hd : (all[j]?).bind (·.dst) with
    | none => rw [hd] at hk; exact hk.elim
    | some d =>
      rw [hd] at hk
      simp only at hk
      have hy : yielded all a.tmps j = (match a.tmps[d]? with | some (.bool b) => some b | _ => none) := by
        unfold yielded
        rw [hd]
        simp only [Option.bind_some]
        rfl
      split at hk
      · rename_i t ht
        obtain ⟨h1, h2⟩ := h.rr.regs _ _ ht
        have h3 : a.tmps.getD d undef = .bool t := h2
        have h4 : a.tmps[d]? = some (.bool t) := by
          have hl : d < a.tmps.size := by rw [h.rr.size]; exact h1
          simp [hl] at h3 ⊢; exact h3
        have hw : Region.wanted o (yielded all a.tmps) = (t == want) := by
          simp only [Region.wanted, hg, hy, h4]
          cases t <;> cases want <;> rfl
        rw [hw]
        cases want <;> cases t
        · exact (by simpa using run hk)
        · exact (by simpa using skip hk)
        · exact (by simpa using skip hk)
        · exact (by simpa using run hk)
      · rename_i ht
        obtain ⟨h1, q, h2, h3⟩ := h.rr.regs _ _ ht
        have h4 : a.tmps[d]? = some (.tuple q) := by
          have hl : d < a.tmps.size := by rw [h.rr.size]; exact h1
          simp [hl] at h2 ⊢; exact h2
        have hw : Region.wanted o (yielded all a.tmps) = false := by
          simp only [Region.wanted, hg, hy, h4]
          rfl
        rw [hw]
        exact (by simpa using skip hk)
      · exact hk.elim
theorem aops_sound (hT : TOK P T) {E0 : Env} {w0 : World} {all : Array Oper} {Q : AX → Regs → Heap → Prop} : ∀ (os : List Oper) (k : Nat), os = all.toList.drop k → ∀ (E : Env) (w : World) (r : Regs) (H : Heap) (a : Act),
    BR n0 nt E0 w0 E r H a w → aops P T ip nt all Q os r H → wpOps P all (Post n0 nt E0 w0 Q) (List.range' k os.length) a w
  | [], k, _, E, w, r, H, a, h, hk => ⟨.normal, E, r, H, trivial, h, hk⟩
  | o :: os, k, he, E, w, r, H, a, h, hk => by
    have ho : all[k]? = some o := by
      have : (all.toList.drop k)[0]? = some o := by rw [← he]; rfl
      rw [List.getElem?_drop] at this
      simpa using this
    have hos : os = all.toList.drop (k + 1) := by
      rw [← List.drop_drop, ← he]; rfl
    simp only [List.length_cons, List.range'_succ, wpOps, ho]
    have := astep_sound hT h hk (next := wpOps P all (Post n0 nt E0 w0 Q) (List.range' (k + 1) os.length)) (Q := Post n0 nt E0 w0 Q)
      (fun x r' H' E' a' w' k1 k2 => aops_sound hT os (k + 1) hos E' w' r' H' a' k2 k1)
      (fun x r' H' E' w' v k1 k2 k3 => ⟨.panic x, E', r', H', ⟨v, rfl, k3⟩, k2, k1⟩)
    split at this
    · rename_i hw; rw [if_pos hw]; exact .inl this
    · rename_i hw; rw [if_neg hw]; exact this
theorem AW_sound (hT : TOK P T) : ∀ (c : Code) (r : Regs) (H : Heap) (Q : AX → Regs → Heap → Prop), AW P T ip n0 nt c r H Q → SW P n0 nt c r H Q
  | .skip, r, H, Q, h => fun E0 w0 E a w hb => wp_skip ⟨.normal, E, r, H, trivial, hb, h⟩
  | .region id ops draw, r, H, Q, h => by
    cases draw with
    | false =>
      intro E0 w0 E a w hb
      refine wp_region ?_
      have := aops_sound hT (Q := Q) ops.toList 0 (by simp) E w r H a hb h
      rwa [← List.range_eq_range', Array.length_toList] at this
    | true => exact fun E0 w0 E a w hb => h.out id E0 w0 E a w hb
  | .seq x y, r, H, Q, h => by
    intro E0 w0 E a w hb
    refine wp_seq ?_
    refine wp_mono (AW_sound hT x r H _ h E0 w0 E a w hb) fun e a' w' ⟨x', E', r', H', k1, k2, k3⟩ => ?_
    cases x' <;> cases e <;> first | exact k1.elim | skip
    · exact AW_sound hT y r' H' Q k3 E0 w0 E' a' w' k2
    · cases k1; exact ⟨.exit _, E', r', H', rfl, k2, k3⟩
    · exact ⟨.ret, E', r', H', trivial, k2, k3⟩
    · exact ⟨.panic _, E', r', H', k1, k2, k3⟩
  | .cond c x y, r, H, Q, h => by
    intro E0 w0 E a w hb
    obtain ⟨v, h1, h⟩ := evalK_sound hb.rr h
    cases v <;> first | exact h.elim | skip
    rename_i t
    have h1' : a.eval c = .bool t := h1
    refine wp_cond h1' ?_
    cases t
    · exact AW_sound hT y r H Q h E0 w0 E a w hb
    · exact AW_sound hT x r H Q h E0 w0 E a w hb
  | .block id c, r, H, Q, h => by
    intro E0 w0 E a w hb
    refine wp_block ?_
    refine wp_mono (AW_sound hT c r H _ h E0 w0 E a w hb) fun e a' w' ⟨x', E', r', H', k1, k2, k3⟩ => ?_
    cases x' <;> cases e <;> first | exact k1.elim | skip
    · exact ⟨.normal, E', r', H', trivial, k2, k3⟩
    · rename_i i j _
      replace k1 : i = j := k1
      subst k1
      cases hi : Nat.beq i id with
      | true =>
        have e : i = id := Nat.eq_of_beq_eq_true hi
        simp only [hi] at k3
        simp only [Exit.inBlock, e, if_true]
        exact ⟨.normal, E', r', H', trivial, k2, k3⟩
      | false =>
        have e : i ≠ id := fun e => by subst e; simp at hi
        simp only [hi] at k3
        simp only [Exit.inBlock, e, if_false]
        exact ⟨.exit i, E', r', H', rfl, k2, k3⟩
    · exact ⟨.ret, E', r', H', trivial, k2, k3⟩
    · exact ⟨.panic _, E', r', H', k1, k2, k3⟩
  | .loop c, r, H, Q, h => h.out
  | .exit id, r, H, Q, h => fun E0 w0 E a w hb => wp_exit ⟨.exit id, E, r, H, rfl, hb, h⟩
  | .ret, r, H, Q, h => fun E0 w0 E a w hb => wp_ret ⟨.ret, E, r, H, trivial, hb, h⟩
  | .scope c, r, H, Q, h => by
    intro E0 w0 E a w hb
    refine wp_scope_straight ?_
    refine wp_mono (AW_sound hT c r H Q h E0 w0 E a w hb) fun e a' w' k => ?_
    cases e <;> first | exact k | skip
    obtain ⟨x', E', r', H', k1, _⟩ := k
    cases x' <;> exact k1.elim
  | .label l, r, H, Q, h => fun E0 w0 E a w hb => wp_label ⟨.normal, E, r, H, trivial, hb, h⟩
  | .rangeFunc .., _, _, _, h => h.elim
  | .goto .., _, _, _, h => h.elim
  | .refuse .., _, _, _, h => h.elim
/-- A change of the state that is none of the program's. -/
def Gh (n0 nt : Nat) (R : Regs → Heap → Prop) (r : Regs) (H : Heap) : Prop :=
  ∀ E0 w0 E a w, BR n0 nt E0 w0 E r H a w → ∃ E' r' H', BR n0 nt E0 w0 E' r' H' a w ∧ R r' H'
theorem Gh.of {R : Regs → Heap → Prop} {r : Regs} {H : Heap} (h : R r H) : Gh n0 nt R r H := fun E0 w0 E a w hb => ⟨E, r, H, hb, h⟩
theorem SW.gh {c : Code} {r : Regs} {H : Heap} {Q : AX → Regs → Heap → Prop} (h : Gh n0 nt (fun r H => SW P n0 nt c r H Q) r H) : SW P n0 nt c r H Q := fun E0 w0 E a w hb => by
  obtain ⟨E', r', H', h1, h2⟩ := h E0 w0 E a w hb
  exact h2 E0 w0 E' a w h1
theorem least {p : Nat → Prop} (h : ∃ n, p n) : ∃ n, p n ∧ ∀ m, p m → n ≤ m := by
  obtain ⟨n, hn⟩ := h
  induction n using Nat.strongRecOn with
  | _ n ih =>
    by_cases h : ∃ m, m < n ∧ p m
    · obtain ⟨m, hm, hp⟩ := h; exact ih m hm hp
    · exact ⟨n, hn, fun m hm => by
        by_cases hl : n ≤ m
        · exact hl
        · exact absurd ⟨m, by omega, hm⟩ h⟩
/-- A loop, by a number that grows less. -/
theorem ALoop.ind (hT : TOK P T) {c : Code} {r : Regs} {H : Heap} {Q : AX → Regs → Heap → Prop} (I : Nat → Regs → Heap → Prop) (n : Nat) (h0 : Gh n0 nt (I n) r H)
    (round : ∀ n r H, I n r H → AW P T ip n0 nt c r H fun e r' H' => match e with
      | .normal => Gh n0 nt (fun r'' H'' => ∃ m, m < n ∧ I m r'' H'') r' H'
      | .exit i => Q (.exit i) r' H'
      | .ret => Q .ret r' H'
      | .panic v => Q (.panic v) r' H') : ALoop P n0 nt c r H Q := by
  refine ⟨fun E0 w0 E a w hb => ?_⟩
  let J : Nat → Act → World → Prop := fun m a w => ∃ E r H, BR n0 nt E0 w0 E r H a w ∧ I m r H
  let S : Act → World → Prop := fun a w => ∃ m, J m a w
  let μ : Act → World → Nat := fun a w => by
    classical exact if h : S a w then Classical.choose (least h) else 0
  have hμ : ∀ a w, (h : S a w) → J (μ a w) a w ∧ ∀ m, J m a w → μ a w ≤ m := by
    classical
    intro a w h
    have e : μ a w = Classical.choose (least h) := by simp only [μ]; rw [dif_pos h]
    rw [e]
    exact Classical.choose_spec (least h)
  obtain ⟨E', r', H', h1, h2⟩ := h0 E0 w0 E a w hb
  refine wp_loop S μ ⟨n, E', r', H', h1, h2⟩ fun a w hS => ?_
  obtain ⟨⟨E1, r1, H1, k1, k2⟩, _⟩ := hμ a w hS
  refine wp_mono (AW_sound hT c r1 H1 _ (round _ r1 H1 k2) E0 w0 E1 a w k1) fun e a' w' ⟨x', E2, r2, H2, l1, l2, l3⟩ => ?_
  cases x' <;> cases e <;> first | exact l1.elim | skip
  · obtain ⟨E3, r3, H3, m1, m, m2, m3⟩ := l3 E0 w0 E2 a' w' l2
    have hS' : S a' w' := ⟨m, E3, r3, H3, m1, m3⟩
    exact ⟨hS', Nat.lt_of_le_of_lt ((hμ a' w' hS').2 m ⟨E3, r3, H3, m1, m3⟩) m2⟩
  · cases l1; exact ⟨.exit _, E2, r2, H2, rfl, l2, l3⟩
  · exact ⟨.ret, E2, r2, H2, trivial, l2, l3⟩
  · exact ⟨.panic _, E2, r2, H2, l1, l2, l3⟩
end
end Go.AK
