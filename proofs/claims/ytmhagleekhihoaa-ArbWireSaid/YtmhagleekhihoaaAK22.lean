import Derived.Test.YtmhagleekhihoaaAK21
namespace Go.AK
open Go Go.RowKit
set_option linter.unusedVariables false
/-! Drawn regions in which, behind an operation that turns something, others that only hand on come in any order. -/
def pureK : Op → Bool
  | .move _ | .assign _ | .extract .. => true
  | _ => false
theorem pureK_sil {op : Op} (h : pureK op = true) : silK op = true := by cases op <;> first | rfl | cases h
def chkPostP (ops : Array Oper) : Array Bool → List (Nat × Bool) → Bool
  | listed, [] => Region.ready .any ops listed == []
  | listed, (i, true) :: π => (match ops[i]? with
    | some o => pureK o.op && (Region.ready .any ops listed).contains i && Region.free .any ops listed i
    | none => false) && chkPostP ops (listed.setIfInBounds i true) π
  | listed, (i, false) :: π => (Region.ready .any ops listed == [i]) && chkPostP ops (listed.setIfInBounds i true) π
def drawOKP (ops : Array Oper) (soft pre : List Nat) (post : List (Nat × Bool)) : Bool :=
  Region.noSelect ops && (pre.length + post.length == ops.size) && (match post with | [] => true | (i, _) :: _ => brkI ops i) &&
  match chkPre ops soft (Array.replicate ops.size false) pre with
  | some l => chkPostP ops l post
  | none => false
section
variable (P : Program) (T : TT)
def apost (ip : Bool) (nt : Nat) (all : Array Oper) (Q : AX → Regs → Heap → Prop) : List (Nat × Bool) → Regs → Heap → Prop
  | [], r, H => Q .normal r H
  | (i, true) :: π, r, H => match all[i]? with
    | some o => asilStep P T nt all true r H o fun r' => apost ip nt all Q π r' H
    | none => False
  | (i, false) :: π, r, H => match all[i]? with
    | some o => astep P T ip nt all r H o fun v r' H' => match v with
      | .ret _ => apost ip nt all Q π r' H'
      | .pan v => Q (.panic v) r' H'
    | none => False
def adrawP (ip : Bool) (nt : Nat) (all : Array Oper) (soft : List Nat) (Q : AX → Regs → Heap → Prop) : List Nat → List (Nat × Bool) → Regs → Heap → Prop
  | [], post, r, H => apost P T ip nt all Q post r H
  | i :: pre, post, r, H => match all[i]? with
    | some o => asilStep P T nt all (soft.contains i) r H o fun r' => adrawP ip nt all soft Q pre post r' H
    | none => False
end
section
variable {P : Program} {T : TT} {n0 nt : Nat}
theorem asil_pure {E : Env} {r : Regs} {a : Act} (hr : RR nt E r a) {o : Oper} {K : AV → Prop} (hp : pureK o.op = true) (h : asil P T r o.op K) : ∃ y v, VR E y v ∧ K y ∧ ∀ w', (execOp a.eval o).run P w' = .ok (.value v) w' := by
  obtain ⟨dst, op, ty, pos, aft, gd⟩ := o
  cases op <;> first | cases hp | skip
  case move x =>
    simp only [asil] at h
    obtain ⟨y, h1, h2⟩ := evalK_sound hr h
    exact ⟨y, _, h1, h2, fun w => rfl⟩
  case assign x =>
    simp only [asil] at h
    obtain ⟨y, h1, h2⟩ := evalK_sound hr h
    exact ⟨y, _, h1, h2, fun w => rfl⟩
  case extract x n =>
    simp only [asil] at h
    obtain ⟨v, h1, h⟩ := evalK_sound hr h
    split at h
    · rename_i vs
      obtain ⟨as, h3, h4⟩ := h1
      obtain ⟨y, h5, h6⟩ := aget_some h
      obtain ⟨u, h7, h8⟩ := h4.get h5
      have h9 : as[n]? = some u := by simpa using h7
      exact ⟨y, u, h8, h6, fun w => by simp [execOp, h3, Instr.extract, h9]⟩
    · exact h.elim
theorem pureStep_sound {E0 E : Env} {w0 w : World} {r : Regs} {H : Heap} {a : Act} (h : BR n0 nt E0 w0 E r H a w) {all : Array Oper} {o : Oper} {K : Regs → Prop} (hp : pureK o.op = true) (hk : asilStep P T nt all true r H o K) :
    ∃ v, YieldsIf P all (fun _ => True) o v a ∧ ∃ r', K r' ∧ BR n0 nt E0 w0 E r' H (a.put o.dst v) w := by
  have run : ∀ (hw : Region.wanted o (yielded all a.tmps) = true) (hk : asil P T r o.op fun v => putD nt o.dst v r K), ∃ v, YieldsIf P all (fun _ => True) o v a ∧ ∃ r', K r' ∧ BR n0 nt E0 w0 E r' H (a.put o.dst v) w := fun hw hk => by
    obtain ⟨y, v, h1, h2, h3⟩ := asil_pure h.rr hp hk
    exact ⟨v, .inl ⟨hw, fun w' _ => h3 w'⟩, putD_sound h h1 h2⟩
  have skip : ∀ (hw : Region.wanted o (yielded all a.tmps) = false) (hk : putD nt o.dst (.tup []) r K), ∃ v, YieldsIf P all (fun _ => True) o v a ∧ ∃ r', K r' ∧ BR n0 nt E0 w0 E r' H (a.put o.dst v) w := fun hw hk => by
    exact ⟨undef, .inr ⟨hw, rfl⟩, putD_sound h (x := .tup []) (v := undef) ⟨#[], rfl, rfl⟩ hk⟩
  unfold asilStep at hk
  cases hg : o.guard with
  | none =>
    rw [hg] at hk
    exact run (by simp [Region.wanted, hg]) hk
  | some p =>
    obtain ⟨j, want⟩ := p
    rw [hg] at hk
    simp only at hk
    cases hd : (all[j]?).bind (·.dst) with
    | none => rw [hd] at hk; exact hk.elim
    | some d =>
      rw [hd] at hk
      simp only at hk
      have hy : yielded all a.tmps j = (match a.tmps[d]? with | some (.bool b) => some b | _ => none) := by
        unfold yielded
        rw [hd]
        simp only [Option.bind_some]
        rfl
      split at hk
      · rename_i t ht
        obtain ⟨h1, h2⟩ := h.rr.regs _ _ ht
        have h3 : a.tmps.getD d undef = .bool t := h2
        have h4 : a.tmps[d]? = some (.bool t) := by
          have hl : d < a.tmps.size := by rw [h.rr.size]; exact h1
          simp [hl] at h3 ⊢; exact h3
        have hw : Region.wanted o (yielded all a.tmps) = (t == want) := by
          simp only [Region.wanted, hg, hy, h4]
          cases t <;> cases want <;> rfl
        cases want <;> cases t
        · exact run hw hk
        · exact skip hw hk
        · exact skip hw hk
        · exact run hw hk
      · rename_i ht
        obtain ⟨h1, q, h2, h3⟩ := h.rr.regs _ _ ht
        have h4 : a.tmps[d]? = some (.tuple q) := by
          have hl : d < a.tmps.size := by rw [h.rr.size]; exact h1
          simp [hl] at h2 ⊢; exact h2
        have hw : Region.wanted o (yielded all a.tmps) = false := by
          simp only [Region.wanted, hg, hy, h4]
          rfl
        exact skip hw hk
      · exact hk.elim
theorem postP_sound (hT : TOK P T) {ip : Bool} {E0 Es : Env} {w0 ws : World} {all : Array Oper} {Q : AX → Regs → Heap → Prop} (hl0 : E0.ρ.length = n0) (hE : Ext E0 w0 Es ws) (hsel : Region.noSelect all = true)
    (hQ : ∀ x r r' H, Q (.panic x) r H → Q (.panic x) r' H) :
    ∀ (π : List (Nat × Bool)) (listed : Array Bool) (fuel : Nat), chkPostP all listed π = true → π.length ≤ fuel → (∃ j, brkI all j = true ∧ listed.getD j false = true) → listed.size = all.size →
    ∀ (E : Env) (w : World) (r : Regs) (H : Heap) (a : Act), BR Es.ρ.length nt Es ws E r H a w → apost P T ip nt all Q π r H →
      wpAnyB P .any all (Post n0 nt E0 w0 Q) (brkI all) (ImOK Es) (SameW ws) fuel listed a w
  | [], listed, fuel, hc, hf, hb, hsz, E, w, r, H, a, h, hk => by
    have hr : Region.ready .any all listed = [] := by simpa [chkPostP] using hc
    have hq : Post n0 nt E0 w0 Q .normal a w := ⟨.normal, E, r, H, trivial, ⟨hl0, hE.trans h.ext, h.rel, h.rr, h.nd⟩, hk⟩
    cases fuel with
    | zero => exact ⟨hr, hq⟩
    | succ n => exact ⟨fun _ => hq, by rw [hr]; simp⟩
  | (i, s) :: π, listed, 0, hc, hf, hb, hsz, E, w, r, H, a, h, hk => by simp at hf
  | (i, false) :: π, listed, fuel + 1, hc, hf, hb, hsz, E, w, r, H, a, h, hk => by
    simp only [chkPostP, Bool.and_eq_true, beq_iff_eq] at hc
    obtain ⟨hr, hc⟩ := hc
    have hir : i ∈ Region.ready .any all listed := by rw [hr]; simp
    obtain ⟨hun, o, ho, _⟩ := mem_ready.1 hir
    refine ⟨fun h0 => (by rw [hr] at h0; cases h0), ?_⟩
    rw [hr]
    intro k hki
    have : k = i := by simpa using hki
    subst this
    have hb' : ∃ j, brkI all j = true ∧ (listed.setIfInBounds k true).getD j false = true := by
      obtain ⟨j, h1, h2⟩ := hb
      exact ⟨j, h1, getD_set_true h2⟩
    have hk' : astep P T ip nt all r H o fun v r' H' => match v with | .ret _ => apost P T ip nt all Q π r' H' | .pan v => Q (.panic v) r' H' := by
      simpa only [apost, ho] using hk
    have := astep_sound hT h hk' (next := fun a' w' => Sf (brkI all) (ImOK Es) (SameW ws) (listed.setIfInBounds k true) w' ∧ wpAnyB P .any all (Post n0 nt E0 w0 Q) (brkI all) (ImOK Es) (SameW ws) fuel (listed.setIfInBounds k true) a' w') (Q := Post n0 nt E0 w0 Q)
      (fun x r' H' E' a' w' k1 k2 => ⟨⟨fun g o hg => k2.rel.im g o (k2.ext.le.im g o hg), fun hn => by
          obtain ⟨j, h1, h2⟩ := hb'
          rw [hn j h1] at h2; cases h2⟩, postP_sound hT hl0 hE hsel hQ π _ fuel hc (by simp at hf; omega) hb' (by simpa using hsz) E' w' r' H' a' k2 k1⟩)
      (fun x r' H' E' w' v k1 k2 k3 => ⟨.panic x, E', r', H', ⟨v, rfl, k3⟩, ⟨hl0, hE.trans k2.ext, k2.rel, k2.rr, k2.nd⟩, k1⟩)
    unfold wpOp
    simp only [ho]
    split at this
    · rename_i hw; rw [if_pos hw]; exact .inl this
    · rename_i hw; rw [if_neg hw]; exact this
  | (i, true) :: π, listed, fuel + 1, hc, hf, hb, hsz, E, w, r, H, a, h, hk => by
    simp only [chkPostP, Bool.and_eq_true] at hc
    obtain ⟨hc1, hc⟩ := hc
    cases ho : all[i]? with
    | none => rw [ho] at hc1; cases hc1
    | some o =>
      rw [ho] at hc1
      simp only [Bool.and_eq_true] at hc1
      obtain ⟨⟨hpu, hrd⟩, hfr⟩ := hc1
      have hk' : asilStep P T nt all true r H o fun r' => apost P T ip nt all Q π r' H := by
        simpa only [apost, ho] using hk
      obtain ⟨v, hy, r', hk2, hbr⟩ := pureStep_sound h hpu hk'
      have hbi : brkI all i = false := by unfold brkI; rw [ho]; simp [pureK_sil hpu]
      have hb' : ∃ j, brkI all j = true ∧ (listed.setIfInBounds i true).getD j false = true := by
        obtain ⟨j, h1, h2⟩ := hb
        exact ⟨j, h1, getD_set_true h2⟩
      have hQp : ∀ c a' w', Post n0 nt E0 w0 Q (.panic c) (a'.put o.dst v) w' → Post n0 nt E0 w0 Q (.panic c) a' w' := by
        rintro c a' w' ⟨x, E, r, H, hx, hb, hq⟩
        cases x <;> first | exact hx.elim | skip
        refine ⟨_, E, [], H, hx, ⟨hb.len0, hb.ext, hb.rel, ⟨?_, fun t v ht => by cases ht⟩, ?_⟩, hQ _ _ _ _ hq⟩
        · have := hb.rr.size
          cases hd : o.dst <;> simpa [Act.put, hd] using this
        · have := hb.nd
          cases hd : o.dst <;> simpa [Act.put, hd] using this
      have hSf : Sf (brkI all) (ImOK Es) (SameW ws) listed w := ⟨fun g o hg => h.rel.im g o (h.ext.le.im g o hg), fun hn => by
        obtain ⟨j, h1, h2⟩ := hb
        rw [hn j h1] at h2; cases h2⟩
      have hrec := postP_sound hT hl0 hE hsel hQ π _ fuel hc (by simp at hf; omega) hb' (by simpa using hsz) E w r' H _ hbr hk2
      exact wpAnyB_first (X := fun _ => True) (W := []) ho (Region.noSelect_spec hsel) hQp (fun j hj => by cases hj) hbi (fun listed' w' hWl hS => trivial) fuel listed a w (Region.free_spec ho hfr) (by simpa using hrd) (fun j hj => by cases hj) hy hSf hrec
theorem preP_sound (hT : TOK P T) {ip : Bool} {E0 Es : Env} {w0 ws : World} {all : Array Oper} {Q : AX → Regs → Heap → Prop} (hl0 : E0.ρ.length = n0) (hE : Ext E0 w0 Es ws) (hsel : Region.noSelect all = true)
    (hQ : ∀ x r r' H, Q (.panic x) r H → Q (.panic x) r' H) {soft : List Nat} {post : List (Nat × Bool)} (hpo : (match post with | [] => true | (i, _) :: _ => brkI all i) = true) :
    ∀ (pre : List Nat) (listed l : Array Bool) (fuel : Nat), chkPre all soft listed pre = some l → chkPostP all l post = true → pre.length + post.length ≤ fuel → noBrk (brkI all) listed → listed.size = all.size →
    ∀ (r : Regs) (H : Heap) (a : Act), BR Es.ρ.length nt Es ws Es r H a ws → adrawP P T ip nt all soft Q pre post r H →
      wpAnyB P .any all (Post n0 nt E0 w0 Q) (brkI all) (ImOK Es) (SameW ws) fuel listed a ws
  | [], listed, l, fuel, hc, hc2, hf, hnb, hsz, r, H, a, h, hk => by
    simp only [chkPre, Option.some.injEq] at hc
    subst hc
    cases post with
    | nil =>
      have hr : Region.ready .any all listed = [] := by simpa [chkPostP] using hc2
      have hq : Post n0 nt E0 w0 Q .normal a ws := ⟨.normal, Es, r, H, trivial, ⟨hl0, hE, h.rel, h.rr, h.nd⟩, hk⟩
      cases fuel with
      | zero => exact ⟨hr, hq⟩
      | succ n => exact ⟨fun _ => hq, by rw [hr]; simp⟩
    | cons is π =>
      obtain ⟨i, s⟩ := is
      cases fuel with
      | zero => simp at hf
      | succ fuel =>
        have hbr0 : brkI all i = true := hpo
        cases s with
        | true =>
          exfalso
          simp only [chkPostP, Bool.and_eq_true] at hc2
          cases ho : all[i]? with
          | none => rw [ho] at hc2; exact absurd hc2.1 (by simp)
          | some o =>
            rw [ho] at hc2
            simp only [Bool.and_eq_true] at hc2
            unfold brkI at hbr0
            rw [ho] at hbr0
            simp [pureK_sil hc2.1.1.1] at hbr0
        | false =>
        simp only [chkPostP, Bool.and_eq_true, beq_iff_eq] at hc2
        obtain ⟨hr, hc⟩ := hc2
        have hir : i ∈ Region.ready .any all listed := by rw [hr]; simp
        obtain ⟨hun, o, ho, _⟩ := mem_ready.1 hir
        have hlt : i < all.size := (Array.getElem?_eq_some_iff.1 ho).1
        refine ⟨fun h0 => (by rw [hr] at h0; cases h0), ?_⟩
        rw [hr]
        intro k hki
        have : k = i := by simpa using hki
        subst this
        have hb' : ∃ j, brkI all j = true ∧ (listed.setIfInBounds k true).getD j false = true :=
          ⟨k, hpo, by simp [hsz, hlt]⟩
        have hk' : astep P T ip nt all r H o fun v r' H' => match v with | .ret _ => apost P T ip nt all Q π r' H' | .pan v => Q (.panic v) r' H' := by
          have : adrawP P T ip nt all soft Q [] ((k, false) :: π) r H := hk
          simpa only [adrawP, apost, ho] using this
        have := astep_sound hT h hk' (next := fun a' w' => Sf (brkI all) (ImOK Es) (SameW ws) (listed.setIfInBounds k true) w' ∧ wpAnyB P .any all (Post n0 nt E0 w0 Q) (brkI all) (ImOK Es) (SameW ws) fuel (listed.setIfInBounds k true) a' w') (Q := Post n0 nt E0 w0 Q)
          (fun x r' H' E' a' w' k1 k2 => ⟨⟨fun g o hg => k2.rel.im g o (k2.ext.le.im g o hg), fun hn => by
              obtain ⟨j, h1, h2⟩ := hb'
              rw [hn j h1] at h2; cases h2⟩, postP_sound hT hl0 hE hsel hQ π _ fuel hc (by simp at hf; omega) hb' (by simpa using hsz) E' w' r' H' a' k2 k1⟩)
          (fun x r' H' E' w' v k1 k2 k3 => ⟨.panic x, E', r', H', ⟨v, rfl, k3⟩, ⟨hl0, hE.trans k2.ext, k2.rel, k2.rr, k2.nd⟩, k1⟩)
        unfold wpOp
        simp only [ho]
        split at this
        · rename_i hw; rw [if_pos hw]; exact .inl this
        · rename_i hw; rw [if_neg hw]; exact this
  | i :: pre, listed, l, 0, hc, hc2, hf, hnb, hsz, r, H, a, h, hk => by simp at hf
  | i :: pre, listed, l, fuel + 1, hc, hc2, hf, hnb, hsz, r, H, a, h, hk => by
    unfold chkPre at hc
    cases ho : all[i]? with
    | none => rw [ho] at hc; cases hc
    | some o =>
      rw [ho] at hc
      simp only at hc
      split at hc
      · rename_i hcond
        simp only [Bool.and_eq_true, Bool.or_eq_true, Bool.not_eq_true'] at hcond
        obtain ⟨⟨⟨hs, hrd⟩, hfr⟩, hld⟩ := hcond
        have hk' : asilStep P T nt all (soft.contains i) r H o fun r' => adrawP P T ip nt all soft Q pre post r' H := by
          simpa only [adrawP, ho] using hk
        obtain ⟨v, hy, r', hk2, hbr⟩ := asilStep_sound hT h hk'
        have hbi : brkI all i = false := by unfold brkI; rw [ho]; simp [hs]
        have hnb' : noBrk (brkI all) (listed.setIfInBounds i true) := fun j hj => by
          have hne : i ≠ j := fun e => by subst e; rw [hbi] at hj; cases hj
          rw [getD_set_ne false hne]; exact hnb j hj
        have hrec := preP_sound hT hl0 hE hsel hQ hpo pre _ l fuel hc hc2 (by simp at hf; omega) hnb' (by simpa using hsz) r' H _ hbr hk2
        have hQp : ∀ c a' w', Post n0 nt E0 w0 Q (.panic c) (a'.put o.dst v) w' → Post n0 nt E0 w0 Q (.panic c) a' w' := by
          rintro c a' w' ⟨x, E, r, H, hx, hb, hq⟩
          cases x <;> first | exact hx.elim | skip
          refine ⟨_, E, [], H, hx, ⟨hb.len0, hb.ext, hb.rel, ⟨?_, fun t v ht => by cases ht⟩, ?_⟩, hQ _ _ _ _ hq⟩
          · have := hb.rr.size
            cases hd : o.dst <;> simpa [Act.put, hd] using this
          · have := hb.nd
            cases hd : o.dst <;> simpa [Act.put, hd] using this
        have hSf : Sf (brkI all) (ImOK Es) (SameW ws) listed ws := ⟨h.rel.im, fun _ _ _ h => h⟩
        by_cases hl : (isLd o.op && !soft.contains i) = true
        · have hw : wOK all listed i (waits all i) = true := by
            rcases hld with h' | h'
            · rw [h'] at hl; cases hl
            · exact h'
          generalize waits all i = W at hw
          simp only [wOK, Bool.and_eq_true, List.all_eq_true, List.mem_range, Bool.or_eq_true, Bool.not_eq_true'] at hw
          obtain ⟨hw1, hw2⟩ := hw
          refine wpAnyB_first (X := SameW ws) (W := W) ho (Region.noSelect_spec hsel) hQp (fun j hj => ?_) hbi (fun listed' w' hWl hS => ?_) fuel listed a ws (Region.free_spec ho hfr) (by simpa using hrd) (fun j hj => (hw1 j hj).2) ?_ hSf hrec
          · have h1 := (hw1 j hj).1
            cases hoj : all[j]? with
            | none => rw [hoj] at h1; cases h1
            | some oj =>
              rw [hoj] at h1
              obtain ⟨e, he, h2⟩ := Array.any_eq_true'.1 h1
              simp only [Bool.and_eq_true, Bool.or_eq_true, beq_iff_eq, List.contains_iff_mem] at h2
              exact ⟨oj, rfl, e, he, h2.1, h2.2⟩
          · refine hS.two fun j hj => ?_
            have hjs : j < all.size := by
              unfold brkI at hj
              cases hoj : all[j]? with
              | none => rw [hoj] at hj; cases hj
              | some oj => exact (Array.getElem?_eq_some_iff.1 hoj).1
            rcases hw2 j hjs with h' | h'
            · rw [hj] at h'; cases h'
            · exact hWl j (by simpa using h')
          · rw [show SilX (soft.contains i) o Es ws = SameW ws from by funext w'; exact if_pos hl] at hy; exact hy
        · refine wpAnyB_first (X := ImOK Es) (W := []) ho (Region.noSelect_spec hsel) hQp (fun j hj => by cases hj) hbi (fun listed' w' hWl hS => hS.one) fuel listed a ws (Region.free_spec ho hfr) (by simpa using hrd) (fun j hj => by cases hj) ?_ hSf hrec
          rw [show SilX (soft.contains i) o Es ws = ImOK Es from by funext w'; exact if_neg hl] at hy; exact hy
      · cases hc
/-- A region of which the order is drawn, by one order: 'pre' are those that only look, 'post' come one by one. -/
theorem ADraw.ofP (hT : TOK P T) (hm : P.follows .mixedOrders = true) (ip : Bool) {ops : Array Oper} {r : Regs} {H : Heap} {Q : AX → Regs → Heap → Prop} (soft pre : List Nat) (post : List (Nat × Bool)) (hd : drawOKP ops soft pre post = true)
    (hQ : ∀ x r r' H, Q (.panic x) r H → Q (.panic x) r' H) (h : adrawP P T ip nt ops soft Q pre post r H) : ADraw P n0 nt ops r H Q := by
  refine ⟨fun id E0 w0 E a w hb => ?_⟩
  unfold drawOKP at hd
  simp only [Bool.and_eq_true, beq_iff_eq] at hd
  obtain ⟨⟨⟨h1, h2⟩, h3⟩, h4⟩ := hd
  split at h4
  · rename_i l hl
    have hb2 : Ext E0 w0 E { w with drawn := w.drawn + 1 } := ⟨hb.ext.le, hb.ext.new, hb.ext.imn, hb.ext.os, hb.ext.tape, hb.ext.output, hb.ext.size, hb.ext.keep⟩
    have hr2 : Rel E H { w with drawn := w.drawn + 1 } := ⟨hb.rel.len, hb.rel.blk, hb.rel.mp, hb.rel.inj, hb.rel.lt, hb.rel.im, hb.rel.imd⟩
    have hnb : noBrk (brkI ops) (Array.replicate ops.size false) := fun j _ => by
      by_cases hj : j < ops.size
      · simp [hj]
      · simp [hj]
    have := preP_sound hT hb.len0 hb2 h1 hQ h3 pre _ l ops.size hl h4 (by omega) hnb (by simp) r H a ⟨rfl, .refl _ _, hr2, hb.rr, hb.nd⟩ h
    exact wp_region_any hm (wpAny_of_B _ _ _ _ this)
  · cases h4
end
end Go.AK
