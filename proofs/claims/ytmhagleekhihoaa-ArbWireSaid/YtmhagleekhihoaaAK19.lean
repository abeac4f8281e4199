import Derived.Test.YtmhagleekhihoaaAK18
namespace Go.AK
open Go Go.RowKit
set_option linter.unusedVariables false
/-- Kinds of operations that only look. -/
def silK : Op → Bool
  | .move _ | .assign _ | .pick .. | .nilCheck _ | .build .. | .load .. | .binOp .. | .unOp .. | .convert .. | .makeFunc .. | .makeInterface .. | .slice .. | .fieldAddr .. | .field .. | .indexAddr .. | .index .. | .extract .. => true
  | .call c => (match c.callee with | .builtin .len => true | _ => false)
  | _ => false
def isLd : Op → Bool
  | .load .. => true
  | _ => false
def brkI (ops : Array Oper) (j : Nat) : Bool := match ops[j]? with
  | some o => !silK o.op
  | none => false
/-- Those that wait for number i, at once or behind others. -/
def waits (ops : Array Oper) (i : Nat) : List Nat :=
  (List.range ops.size).foldl (fun W j => match ops[j]? with
    | some o => if o.after.any fun e => Region.binds .any e && (e.on == i || W.contains e.on) then j :: W else W
    | none => W) []
def wOK (ops : Array Oper) (listed : Array Bool) (i : Nat) (W : List Nat) : Bool :=
  (W.all fun j => (match ops[j]? with
    | some o => o.after.any fun e => Region.binds .any e && (e.on == i || W.contains e.on)
    | none => false) && !listed.getD j false) && (List.range ops.size).all fun j => !brkI ops j || W.contains j
def chkPre (ops : Array Oper) (soft : List Nat) : Array Bool → List Nat → Option (Array Bool)
  | listed, [] => some listed
  | listed, i :: π => match ops[i]? with
    | some o => if silK o.op && (Region.ready .any ops listed).contains i && Region.free .any ops listed i && (!(isLd o.op && !soft.contains i) || wOK ops listed i (waits ops i)) then chkPre ops soft (listed.setIfInBounds i true) π else none
    | none => none
def chkPost (ops : Array Oper) : Array Bool → List Nat → Bool
  | listed, [] => Region.ready .any ops listed == []
  | listed, i :: π => (Region.ready .any ops listed == [i]) && chkPost ops (listed.setIfInBounds i true) π
def drawOK (ops : Array Oper) (soft pre post : List Nat) : Bool :=
  Region.noSelect ops && (pre.length + post.length == ops.size) && (match post with | [] => true | i :: _ => brkI ops i) &&
  match chkPre ops soft (Array.replicate ops.size false) pre with
  | some l => chkPost ops l post
  | none => false
section
variable (P : Program) (T : TT)
def asilM (r : Regs) (H : Heap) (o : Op) (K : AV → Prop) : Prop :=
  match o with
  | .load t x => evalK r x fun v => tiK T t fun ti => match v with
    | .p (some (j, o)) => ablk H j fun cs => aload ti cs o K
    | .rp cs o => aload ti cs o K
    | _ => False
  | o => asil P T r o K
def asilS (sf : Bool) (r : Regs) (H : Heap) (o : Op) (K : AV → Prop) : Prop :=
  match sf with
  | true => asil P T r o K
  | false => asilM P T r H o K
def asilStep (nt : Nat) (all : Array Oper) (sf : Bool) (r : Regs) (H : Heap) (o : Oper) (K : Regs → Prop) : Prop :=
  let run := asilS P T sf r H o.op fun v => putD nt o.dst v r K
  let skip := putD nt o.dst (.tup []) r K
  match o.guard with
  | none => run
  | some (j, want) => match (all[j]?).bind (·.dst) with
    | none => False
    | some d => match getR r d with
      | some (.b t) => match want with
        | true => acond t run skip
        | false => acond t skip run
      | some (.tup []) => skip
      | _ => False
def pickOps (all : Array Oper) : List Nat → List Oper
  | [] => []
  | i :: π => match all[i]? with
    | some o => o :: pickOps all π
    | none => pickOps all π
def adraw (ip : Bool) (nt : Nat) (all : Array Oper) (soft : List Nat) (Q : AX → Regs → Heap → Prop) : List Nat → List Nat → Regs → Heap → Prop
  | [], post, r, H => aops P T ip nt all Q (pickOps all post) r H
  | i :: pre, post, r, H => match all[i]? with
    | some o => asilStep P T nt all (soft.contains i) r H o fun r' => adraw ip nt all soft Q pre post r' H
    | none => False
end
def SameW (w w' : World) : Prop := ∀ (g : Nat) (o : Obj), w.heap[g]? = some o → w'.heap[g]? = some o
def SilX (sf : Bool) (o : Oper) (E : Env) (w w' : World) : Prop := if (isLd o.op && !sf) = true then SameW w w' else ImOK E w'
section
variable {P : Program} {T : TT} {n0 nt : Nat}
theorem asilM_sound (hT : TOK P T) {E : Env} {w : World} {r : Regs} {H : Heap} {a : Act} (hr : RR nt E r a) (hR : Rel E H w) {o : Oper} {K : AV → Prop} (h : asilM P T r H o.op K) :
    ∃ y v, VR E y v ∧ K y ∧ ∀ w', SilX false o E w w' → (execOp a.eval o).run P w' = .ok (.value v) w' := by
  unfold SilX
  rw [Bool.not_false, Bool.and_true]
  generalize hop : o.op = op at h
  by_cases hl : isLd op = true
  · simp only [if_pos hl]
    cases op <;> first | cases hl | skip
    simp only [asilM] at h
    replace h := evalK_sound hr h
    obtain ⟨v, h1, h⟩ := h
    replace h := tiK_some h
    obtain ⟨ti, ht, h⟩ := h
    split at h
    · rename_i j of_
      replace h := ablk_some h
      obtain ⟨cs, hj, h⟩ := h
      obtain ⟨g, f, q, hρ, hv⟩ := h1
      obtain ⟨g', f', b, t', e1, e2, e3⟩ := hR.blk j cs hj
      rw [hρ] at e1
      simp only [Option.some.injEq, Prod.mk.injEq] at e1
      obtain ⟨rfl, rfl, rfl⟩ := e1
      obtain ⟨y, u, h6, h7, h8⟩ := loadVar_run hT ht e2 e3 h
      exact ⟨y, u, h6, h7, fun w' hw => by simp [execOp, hop, hv, Instr.loadAt, Instr.sureAddr, h8 w' (hw _ _ e2)]⟩
    · obtain ⟨g, f, c, t', fz, h3, h4, h5⟩ := h1
      obtain ⟨y, u, h6, h7, h8⟩ := loadVar_run hT ht (hR.im _ _ h3) h5 h
      exact ⟨y, u, h6, h7, fun w' hw => by simp [execOp, hop, h4, Instr.loadAt, Instr.sureAddr, h8 w' (hw _ _ (hR.im _ _ h3))]⟩
    · exact h.elim
  · simp only [if_neg hl]
    have h' : asil P T r o.op K := by
      rw [hop]
      cases op <;> first | exact h | exact absurd rfl hl
    obtain ⟨y, v, h1, h2, h3⟩ := asil_sound hT hr h'
    exact ⟨y, v, h1, h2, h3⟩
theorem asilStep_sound (hT : TOK P T) {E0 E : Env} {w0 w : World} {r : Regs} {H : Heap} {a : Act} (h : BR n0 nt E0 w0 E r H a w) {all : Array Oper} {sf : Bool} {o : Oper} {K : Regs → Prop} (hk : asilStep P T nt all sf r H o K) :
    ∃ v, YieldsIf P all (SilX sf o E w) o v a ∧ ∃ r', K r' ∧ BR n0 nt E0 w0 E r' H (a.put o.dst v) w := by
  have run : ∀ (hw : Region.wanted o (yielded all a.tmps) = true) (hk : asilS P T sf r H o.op fun v => putD nt o.dst v r K), ∃ v, YieldsIf P all (SilX sf o E w) o v a ∧ ∃ r', K r' ∧ BR n0 nt E0 w0 E r' H (a.put o.dst v) w := fun hw hk => by
    cases sf with
    | true =>
      obtain ⟨y, v, h1, h2, h3⟩ := asil_sound hT h.rr hk
      refine ⟨v, .inl ⟨hw, fun w' hw' => h3 w' ?_⟩, putD_sound h h1 h2⟩
      simpa [SilX] using hw'
    | false =>
      obtain ⟨y, v, h1, h2, h3⟩ := asilM_sound hT h.rr h.rel hk
      exact ⟨v, .inl ⟨hw, h3⟩, putD_sound h h1 h2⟩
  have skip : ∀ (hw : Region.wanted o (yielded all a.tmps) = false) (hk : putD nt o.dst (.tup []) r K), ∃ v, YieldsIf P all (SilX sf o E w) o v a ∧ ∃ r', K r' ∧ BR n0 nt E0 w0 E r' H (a.put o.dst v) w := fun hw hk => by
    exact ⟨undef, .inr ⟨hw, rfl⟩, putD_sound h (x := .tup []) (v := undef) ⟨#[], rfl, rfl⟩ hk⟩
  unfold asilStep at hk
  cases hg : o.guard with
  | none =>
    rw [hg] at hk
    exact run (by simp [Region.wanted, hg]) hk
  | some p =>
    obtain ⟨j, want⟩ := p
    rw [hg] at hk
    simp only at hk
    cases hd : (all[j]?).bind (·.dst) with
    | none => rw [hd] at hk; exact hk.elim
    | some d =>
      rw [hd] at hk
      simp only at hk
      have hy : yielded all a.tmps j = (match a.tmps[d]? with | some (.bool b) => some b | _ => none) := by
        unfold yielded
        rw [hd]
        simp only [Option.bind_some]
        rfl
      split at hk
      · rename_i t ht
        obtain ⟨h1, h2⟩ := h.rr.regs _ _ ht
        have h3 : a.tmps.getD d undef = .bool t := h2
        have h4 : a.tmps[d]? = some (.bool t) := by
          have hl : d < a.tmps.size := by rw [h.rr.size]; exact h1
          simp [hl] at h3 ⊢; exact h3
        have hw : Region.wanted o (yielded all a.tmps) = (t == want) := by
          simp only [Region.wanted, hg, hy, h4]
          cases t <;> cases want <;> rfl
        cases want <;> cases t
        · exact run hw hk
        · exact skip hw hk
        · exact skip hw hk
        · exact run hw hk
      · rename_i ht
        obtain ⟨h1, q, h2, h3⟩ := h.rr.regs _ _ ht
        have h4 : a.tmps[d]? = some (.tuple q) := by
          have hl : d < a.tmps.size := by rw [h.rr.size]; exact h1
          simp [hl] at h2 ⊢; exact h2
        have hw : Region.wanted o (yielded all a.tmps) = false := by
          simp only [Region.wanted, hg, hy, h4]
          rfl
        exact skip hw hk
      · exact hk.elim
/-- The part behind what was taken first: one after the other, each alone. -/
theorem post_sound (hT : TOK P T) {ip : Bool} {E0 Es : Env} {w0 ws : World} {all : Array Oper} {Q : AX → Regs → Heap → Prop} (hl0 : E0.ρ.length = n0) (hE : Ext E0 w0 Es ws) :
    ∀ (π : List Nat) (listed : Array Bool) (fuel : Nat), chkPost all listed π = true → π.length ≤ fuel → (∃ j, brkI all j = true ∧ listed.getD j false = true) → listed.size = all.size →
    ∀ (E : Env) (w : World) (r : Regs) (H : Heap) (a : Act), BR Es.ρ.length nt Es ws E r H a w → aops P T ip nt all Q (pickOps all π) r H →
      wpAnyB P .any all (Post n0 nt E0 w0 Q) (brkI all) (ImOK Es) (SameW ws) fuel listed a w
  | [], listed, fuel, hc, hf, hb, hsz, E, w, r, H, a, h, hk => by
    have hr : Region.ready .any all listed = [] := by simpa [chkPost] using hc
    have hq : Post n0 nt E0 w0 Q .normal a w := ⟨.normal, E, r, H, trivial, ⟨hl0, hE.trans h.ext, h.rel, h.rr, h.nd⟩, hk⟩
    cases fuel with
    | zero => exact ⟨hr, hq⟩
    | succ n => exact ⟨fun _ => hq, by rw [hr]; simp⟩
  | i :: π, listed, 0, hc, hf, hb, hsz, E, w, r, H, a, h, hk => by simp at hf
  | i :: π, listed, fuel + 1, hc, hf, hb, hsz, E, w, r, H, a, h, hk => by
    simp only [chkPost, Bool.and_eq_true, beq_iff_eq] at hc
    obtain ⟨hr, hc⟩ := hc
    have hir : i ∈ Region.ready .any all listed := by rw [hr]; simp
    obtain ⟨hun, o, ho, _⟩ := mem_ready.1 hir
    refine ⟨fun h0 => (by rw [hr] at h0; cases h0), ?_⟩
    rw [hr]
    intro k hki
    have : k = i := by simpa using hki
    subst this
    have hb' : ∃ j, brkI all j = true ∧ (listed.setIfInBounds k true).getD j false = true := by
      obtain ⟨j, h1, h2⟩ := hb
      exact ⟨j, h1, getD_set_true h2⟩
    have hk' : aops P T ip nt all Q (o :: pickOps all π) r H := by
      simpa only [pickOps, ho] using hk
    have := astep_sound hT h hk' (next := fun a' w' => Sf (brkI all) (ImOK Es) (SameW ws) (listed.setIfInBounds k true) w' ∧ wpAnyB P .any all (Post n0 nt E0 w0 Q) (brkI all) (ImOK Es) (SameW ws) fuel (listed.setIfInBounds k true) a' w') (Q := Post n0 nt E0 w0 Q)
      (fun x r' H' E' a' w' k1 k2 => ⟨⟨fun g o hg => k2.rel.im g o (k2.ext.le.im g o hg), fun hn => by
          obtain ⟨j, h1, h2⟩ := hb'
          rw [hn j h1] at h2; cases h2⟩, post_sound hT hl0 hE π _ fuel hc (by simp at hf; omega) hb' (by simpa using hsz) E' w' r' H' a' k2 k1⟩)
      (fun x r' H' E' w' v k1 k2 k3 => ⟨.panic x, E', r', H', ⟨v, rfl, k3⟩, ⟨hl0, hE.trans k2.ext, k2.rel, k2.rr, k2.nd⟩, k1⟩)
    unfold wpOp
    simp only [ho]
    split at this
    · rename_i hw; rw [if_pos hw]; exact .inl this
    · rename_i hw; rw [if_neg hw]; exact this
theorem pre_sound (hT : TOK P T) {ip : Bool} {E0 Es : Env} {w0 ws : World} {all : Array Oper} {Q : AX → Regs → Heap → Prop} (hl0 : E0.ρ.length = n0) (hE : Ext E0 w0 Es ws) (hsel : Region.noSelect all = true)
    (hQ : ∀ x r r' H, Q (.panic x) r H → Q (.panic x) r' H) {soft post : List Nat} (hpo : (match post with | [] => true | i :: _ => brkI all i) = true) :
    ∀ (pre : List Nat) (listed l : Array Bool) (fuel : Nat), chkPre all soft listed pre = some l → chkPost all l post = true → pre.length + post.length ≤ fuel → noBrk (brkI all) listed → listed.size = all.size →
    ∀ (r : Regs) (H : Heap) (a : Act), BR Es.ρ.length nt Es ws Es r H a ws → adraw P T ip nt all soft Q pre post r H →
      wpAnyB P .any all (Post n0 nt E0 w0 Q) (brkI all) (ImOK Es) (SameW ws) fuel listed a ws
  | [], listed, l, fuel, hc, hc2, hf, hnb, hsz, r, H, a, h, hk => by
    simp only [chkPre, Option.some.injEq] at hc
    subst hc
    cases post with
    | nil =>
      have hr : Region.ready .any all listed = [] := by simpa [chkPost] using hc2
      have hq : Post n0 nt E0 w0 Q .normal a ws := ⟨.normal, Es, r, H, trivial, ⟨hl0, hE, h.rel, h.rr, h.nd⟩, hk⟩
      cases fuel with
      | zero => exact ⟨hr, hq⟩
      | succ n => exact ⟨fun _ => hq, by rw [hr]; simp⟩
    | cons i π =>
      cases fuel with
      | zero => simp at hf
      | succ fuel =>
        simp only [chkPost, Bool.and_eq_true, beq_iff_eq] at hc2
        obtain ⟨hr, hc⟩ := hc2
        have hir : i ∈ Region.ready .any all listed := by rw [hr]; simp
        obtain ⟨hun, o, ho, _⟩ := mem_ready.1 hir
        have hlt : i < all.size := (Array.getElem?_eq_some_iff.1 ho).1
        refine ⟨fun h0 => (by rw [hr] at h0; cases h0), ?_⟩
        rw [hr]
        intro k hki
        have : k = i := by simpa using hki
        subst this
        have hb' : ∃ j, brkI all j = true ∧ (listed.setIfInBounds k true).getD j false = true :=
          ⟨k, hpo, by simp [hsz, hlt]⟩
        have hk' : aops P T ip nt all Q (o :: pickOps all π) r H := by
          have : adraw P T ip nt all soft Q [] (k :: π) r H := hk
          simpa only [adraw, pickOps, ho] using this
        have := astep_sound hT h hk' (next := fun a' w' => Sf (brkI all) (ImOK Es) (SameW ws) (listed.setIfInBounds k true) w' ∧ wpAnyB P .any all (Post n0 nt E0 w0 Q) (brkI all) (ImOK Es) (SameW ws) fuel (listed.setIfInBounds k true) a' w') (Q := Post n0 nt E0 w0 Q)
          (fun x r' H' E' a' w' k1 k2 => ⟨⟨fun g o hg => k2.rel.im g o (k2.ext.le.im g o hg), fun hn => by
              obtain ⟨j, h1, h2⟩ := hb'
              rw [hn j h1] at h2; cases h2⟩, post_sound hT hl0 hE π _ fuel hc (by simp at hf; omega) hb' (by simpa using hsz) E' w' r' H' a' k2 k1⟩)
          (fun x r' H' E' w' v k1 k2 k3 => ⟨.panic x, E', r', H', ⟨v, rfl, k3⟩, ⟨hl0, hE.trans k2.ext, k2.rel, k2.rr, k2.nd⟩, k1⟩)
        unfold wpOp
        simp only [ho]
        split at this
        · rename_i hw; rw [if_pos hw]; exact .inl this
        · rename_i hw; rw [if_neg hw]; exact this
  | i :: pre, listed, l, 0, hc, hc2, hf, hnb, hsz, r, H, a, h, hk => by simp at hf
  | i :: pre, listed, l, fuel + 1, hc, hc2, hf, hnb, hsz, r, H, a, h, hk => by
    unfold chkPre at hc
    cases ho : all[i]? with
    | none => rw [ho] at hc; cases hc
    | some o =>
      rw [ho] at hc
      simp only at hc
      split at hc
      · rename_i hcond
        simp only [Bool.and_eq_true, Bool.or_eq_true, Bool.not_eq_true'] at hcond
        obtain ⟨⟨⟨hs, hrd⟩, hfr⟩, hld⟩ := hcond
        have hk' : asilStep P T nt all (soft.contains i) r H o fun r' => adraw P T ip nt all soft Q pre post r' H := by
          simpa only [adraw, ho] using hk
        obtain ⟨v, hy, r', hk2, hbr⟩ := asilStep_sound hT h hk'
        have hbi : brkI all i = false := by unfold brkI; rw [ho]; simp [hs]
        have hnb' : noBrk (brkI all) (listed.setIfInBounds i true) := fun j hj => by
          have hne : i ≠ j := fun e => by subst e; rw [hbi] at hj; cases hj
          rw [getD_set_ne false hne]; exact hnb j hj
        have hrec := pre_sound hT hl0 hE hsel hQ hpo pre _ l fuel hc hc2 (by simp at hf; omega) hnb' (by simpa using hsz) r' H _ hbr hk2
        have hQp : ∀ c a' w', Post n0 nt E0 w0 Q (.panic c) (a'.put o.dst v) w' → Post n0 nt E0 w0 Q (.panic c) a' w' := by
          rintro c a' w' ⟨x, E, r, H, hx, hb, hq⟩
          cases x <;> first | exact hx.elim | skip
          refine ⟨_, E, [], H, hx, ⟨hb.len0, hb.ext, hb.rel, ⟨?_, fun t v ht => by cases ht⟩, ?_⟩, hQ _ _ _ _ hq⟩
          · have := hb.rr.size
            cases hd : o.dst <;> simpa [Act.put, hd] using this
          · have := hb.nd
            cases hd : o.dst <;> simpa [Act.put, hd] using this
        have hSf : Sf (brkI all) (ImOK Es) (SameW ws) listed ws := ⟨h.rel.im, fun _ _ _ h => h⟩
        by_cases hl : (isLd o.op && !soft.contains i) = true
        · have hw : wOK all listed i (waits all i) = true := by
            rcases hld with h' | h'
            · rw [h'] at hl; cases hl
            · exact h'
          generalize waits all i = W at hw
          simp only [wOK, Bool.and_eq_true, List.all_eq_true, List.mem_range, Bool.or_eq_true, Bool.not_eq_true'] at hw
          obtain ⟨hw1, hw2⟩ := hw
          refine wpAnyB_first (X := SameW ws) (W := W) ho (Region.noSelect_spec hsel) hQp (fun j hj => ?_) hbi (fun listed' w' hWl hS => ?_) fuel listed a ws (Region.free_spec ho hfr) (by simpa using hrd) (fun j hj => (hw1 j hj).2) ?_ hSf hrec
          · have h1 := (hw1 j hj).1
            cases hoj : all[j]? with
            | none => rw [hoj] at h1; cases h1
            | some oj =>
              rw [hoj] at h1
              obtain ⟨e, he, h2⟩ := Array.any_eq_true'.1 h1
              simp only [Bool.and_eq_true, Bool.or_eq_true, beq_iff_eq, List.contains_iff_mem] at h2
              exact ⟨oj, rfl, e, he, h2.1, h2.2⟩
          · refine hS.two fun j hj => ?_
            have hjs : j < all.size := by
              unfold brkI at hj
              cases hoj : all[j]? with
              | none => rw [hoj] at hj; cases hj
              | some oj => exact (Array.getElem?_eq_some_iff.1 hoj).1
            rcases hw2 j hjs with h' | h'
            · rw [hj] at h'; cases h'
            · exact hWl j (by simpa using h')
          · rw [show SilX (soft.contains i) o Es ws = SameW ws from by funext w'; exact if_pos hl] at hy; exact hy
        · refine wpAnyB_first (X := ImOK Es) (W := []) ho (Region.noSelect_spec hsel) hQp (fun j hj => by cases hj) hbi (fun listed' w' hWl hS => hS.one) fuel listed a ws (Region.free_spec ho hfr) (by simpa using hrd) (fun j hj => by cases hj) ?_ hSf hrec
          rw [show SilX (soft.contains i) o Es ws = ImOK Es from by funext w'; exact if_neg hl] at hy; exact hy
      · cases hc
/-- A region of which the order is drawn, by one order: 'pre' are those that only look, 'post' come one by one. -/
theorem ADraw.ofS (hT : TOK P T) (hm : P.follows .mixedOrders = true) (ip : Bool) {ops : Array Oper} {r : Regs} {H : Heap} {Q : AX → Regs → Heap → Prop} (soft pre post : List Nat) (hd : drawOK ops soft pre post = true)
    (hQ : ∀ x r r' H, Q (.panic x) r H → Q (.panic x) r' H) (h : adraw P T ip nt ops soft Q pre post r H) : ADraw P n0 nt ops r H Q := by
  refine ⟨fun id E0 w0 E a w hb => ?_⟩
  unfold drawOK at hd
  simp only [Bool.and_eq_true, beq_iff_eq] at hd
  obtain ⟨⟨⟨h1, h2⟩, h3⟩, h4⟩ := hd
  split at h4
  · rename_i l hl
    have hb2 : Ext E0 w0 E { w with drawn := w.drawn + 1 } := ⟨hb.ext.le, hb.ext.new, hb.ext.imn, hb.ext.os, hb.ext.tape, hb.ext.output, hb.ext.size, hb.ext.keep⟩
    have hr2 : Rel E H { w with drawn := w.drawn + 1 } := ⟨hb.rel.len, hb.rel.blk, hb.rel.mp, hb.rel.inj, hb.rel.lt, hb.rel.im, hb.rel.imd⟩
    have hnb : noBrk (brkI ops) (Array.replicate ops.size false) := fun j _ => by
      by_cases hj : j < ops.size
      · simp [hj]
      · simp [hj]
    have := pre_sound hT hb.len0 hb2 h1 hQ h3 pre _ l ops.size hl h4 (by omega) hnb (by simp) r H a ⟨rfl, .refl _ _, hr2, hb.rr, hb.nd⟩ h
    exact wp_region_any hm (wpAny_of_B _ _ _ _ this)
  · cases h4
theorem ADraw.of (hT : TOK P T) (hm : P.follows .mixedOrders = true) (ip : Bool) {ops : Array Oper} {r : Regs} {H : Heap} {Q : AX → Regs → Heap → Prop} (pre post : List Nat) (hd : drawOK ops [] pre post = true)
    (hQ : ∀ x r r' H, Q (.panic x) r H → Q (.panic x) r' H) (h : adraw P T ip nt ops [] Q pre post r H) : ADraw P n0 nt ops r H Q := ADraw.ofS hT hm ip [] pre post hd hQ h
theorem ADraw.gh {ops : Array Oper} {r : Regs} {H : Heap} {Q : AX → Regs → Heap → Prop} (h : Gh n0 nt (fun r H => ADraw P n0 nt ops r H Q) r H) : ADraw P n0 nt ops r H Q :=
  ⟨fun id E0 w0 E a w hb => by
    obtain ⟨E', r', H', hb', hr⟩ := h E0 w0 E a w hb
    exact hr.out id E0 w0 E' a w hb'⟩
theorem ALoop.gh {c : Code} {r : Regs} {H : Heap} {Q : AX → Regs → Heap → Prop} (h : Gh n0 nt (fun r H => ALoop P n0 nt c r H Q) r H) : ALoop P n0 nt c r H Q :=
  ⟨fun E0 w0 E a w hb => by
    obtain ⟨E', r', H', hb', hr⟩ := h E0 w0 E a w hb
    exact hr.out E0 w0 E' a w hb'⟩
end
end Go.AK
