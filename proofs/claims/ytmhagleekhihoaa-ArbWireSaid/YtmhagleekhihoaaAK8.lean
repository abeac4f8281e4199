import Derived.Test.YtmhagleekhihoaaAK7
namespace Go.AK
open Go Go.RowKit
set_option linter.unusedVariables false
section
variable {P : Program} {T : TT}
/-- A value is come to, in whatever world, by an operation. -/
def SilN (P : Program) (E : Env) (s : Sem Next) (K : AV → Prop) : Prop :=
  ∃ y v, VR E y v ∧ K y ∧ ∀ w, ImOK E w → s.run P w = .ok (.value v) w
theorem SilN.of {E : Env} {s : Sem Next} {K : AV → Prop} {y : AV} {v : Value} (hk : K y) (hv : VR E y v) (h : ∀ w, s.run P w = .ok (.value v) w) : SilN P E s K := ⟨y, v, hv, hk, fun w _ => h w⟩
theorem SilR.next {E : Env} {s : Sem Value} {K : AV → Prop} (h : SilR P E s K) : SilN P E (do pure (.value (← s))) K := by
  obtain ⟨y, v, h1, h2, h3⟩ := h
  exact ⟨y, v, h1, h2, fun w hw => by simp [h3 w hw]⟩
theorem vrl_one {E : Env} {x : AV} {vs : List Value} (h : VRL E [x] vs) : ∃ v, vs = [v] ∧ VR E x v := by
  obtain ⟨v, vs', h1, h2, h3⟩ := h; cases h3; exact ⟨v, h1, h2⟩
theorem vrl_two {E : Env} {x y : AV} {vs : List Value} (h : VRL E [x, y] vs) : ∃ v u, vs = [v, u] ∧ VR E x v ∧ VR E y u := by
  obtain ⟨v, vs', h1, h2, h3⟩ := h; obtain ⟨u, rfl, h4⟩ := vrl_one h3; exact ⟨v, u, h1, h2, h4⟩
theorem arr_of_toList {α : Type} {a : Array α} {l : List α} (h : a.toList = l) : a = l.toArray := by rw [← h]
theorem getD_some {α : Type} {a : Array α} {i : Nat} {d x : α} (h : a[i]? = some x) : a.getD i d = x := by simp [h]
theorem vr_sl {E : Env} {a : Option (Nat × Nat)} {z n c : Nat} {v : Value} (h : VR E (.sl a z n c) v) : ∃ q, v = .slice q n c := by
  rcases a with _ | ⟨j, o⟩
  · obtain ⟨rfl, rfl, rfl⟩ := h; exact ⟨_, rfl⟩
  · obtain ⟨g, f, q, o', _, rfl, _⟩ := h; exact ⟨_, rfl⟩
theorem atT_some {tys : Array Nat} {i : Nat} {K : Nat → Prop} (h : atT tys i K) : ∃ t, tys[i]? = some t ∧ K t := by
  unfold atT at h
  split at h
  · exact ⟨_, by assumption, h⟩
  · exact h.elim
theorem asil_sound (hT : TOK P T) {nt : Nat} {E : Env} {r : Regs} {a : Act} (hr : RR nt E r a) {o : Oper} {K : AV → Prop} (h : asil P T r o.op K) : SilN P E (execOp a.eval o) K := by
  obtain ⟨dst, op, ty, pos, aft, gd⟩ := o
  cases op <;> simp only [asil] at h
  case move x => obtain ⟨y, h1, h2⟩ := evalK_sound hr h; exact SilN.of h2 h1 fun w => rfl
  case assign x => obtain ⟨y, h1, h2⟩ := evalK_sound hr h; exact SilN.of h2 h1 fun w => rfl
  case pick c x y =>
    obtain ⟨v, h1, h2⟩ := evalK_sound hr h
    split at h2
    · rename_i t
      have h1' : a.eval c = .bool t := h1
      cases t
      · obtain ⟨z, h3, h4⟩ := evalK_sound hr (show evalK r y K from h2)
        exact SilN.of h4 h3 fun w => by simp [execOp, h1', asBool]
      · obtain ⟨z, h3, h4⟩ := evalK_sound hr (show evalK r x K from h2)
        exact SilN.of h4 h3 fun w => by simp [execOp, h1', asBool]
    · exact h2.elim
  case nilCheck x =>
    obtain ⟨v, h1, h2⟩ := evalK_sound hr h
    split at h2
    · rename_i q
      rcases q with ⟨j, o⟩
      obtain ⟨g, f, q, h3, h4⟩ := h1
      exact SilN.of h2 ⟨g, f, q, h3, rfl⟩ fun w => by simp [execOp, h4]
    · obtain ⟨g, f, c, t, fz, h3, h4, h5⟩ := h1
      exact SilN.of h2 ⟨g, f, c, t, fz, h3, rfl, h5⟩ fun w => by simp [execOp, h4]
    · obtain ⟨p, q, h4, h5⟩ := h1
      exact SilN.of h2 ⟨p, q, rfl, h5⟩ fun w => by simp [execOp, h4]
    · obtain ⟨u, h4, h5⟩ := h1
      exact SilN.of h2 ⟨u, rfl, h5⟩ fun w => by simp [execOp, h4]
    · exact h2.elim
  case build t ps =>
    obtain ⟨ti, ht, h⟩ := tiK_some h
    obtain ⟨vs, h1, h2⟩ := evalsK_sound hr h
    refine (build_sound (ps := ps.map fun p => (p.1, a.eval p.2)) hT ht ?_ ?_ h2).next
    · simp
    · simpa [Function.comp_def] using h1
  case load t x =>
    obtain ⟨v, h1, h2⟩ := evalK_sound hr h
    obtain ⟨ti, ht, h2⟩ := tiK_some h2
    split at h2
    · rename_i cs o
      obtain ⟨g, f, c, t', fz, h3, h4, h5⟩ := h1
      have hE : ∃ w : World, w.heap[g]? = some (.cells c t' fz) := ⟨{ (default : World) with heap := Array.replicate (g + 1) (.cells c t' fz) }, by simp⟩
      obtain ⟨w0, hw0⟩ := hE
      obtain ⟨y, u, h6, h7, h8⟩ := loadVar_run hT ht hw0 h5 h2
      exact ⟨y, u, h6, h7, fun w hw => by simp [execOp, h4, Instr.loadAt, Instr.sureAddr, h8 w (hw _ _ h3)]⟩
    · exact h2.elim
  case binOp op t x y ty =>
    obtain ⟨v, h1, h2⟩ := evalK_sound hr h
    obtain ⟨u, h3, h4⟩ := evalK_sound hr h2
    exact (abin_sound hT h4 h1 h3).next
  case unOp op t x =>
    obtain ⟨v, h1, h2⟩ := evalK_sound hr h
    split at h2
    · have h1' : a.eval x = .bool _ := h1
      exact SilN.of h2 rfl fun w => by simp [execOp, h1', Op.unary]
    · have h1' : a.eval x = .int _ _ := h1
      exact SilN.of h2 rfl fun w => by simp [execOp, h1', Op.unary, Op.intArith]
    · exact h2.elim
  case convert s d x =>
    obtain ⟨v, h1, h2⟩ := evalK_sound hr h
    obtain ⟨ts, hts, h2⟩ := tiK_some h2
    obtain ⟨td, htd, h2⟩ := tiK_some h2
    obtain ⟨us, hus, _⟩ := hT.desc hts
    obtain ⟨ud, hud, hdd⟩ := hT.desc htd
    generalize td.d = D at h2 hdd
    split at h2
    · obtain rfl := desc_int hdd
      have h1' : a.eval x = .int _ _ := h1
      exact SilN.of h2 rfl fun w => by simp [execOp, h1', convert, run_underlying hus, run_underlying hud, Conv.intToInt]
    · obtain rfl := desc_str hdd
      have h1' : a.eval x = .string _ := h1
      refine SilN.of h2 rfl fun w => ?_
      simp only [execOp, h1', convert, Sem.run_bind, run_underlying hus, run_underlying hud, Result.andThen_ok]
      cases us <;> rfl
    · exact h2.elim
  case makeFunc f fs cap =>
    obtain ⟨vs, h1, h2⟩ := evalsK_sound hr h
    obtain ⟨us, h3, h4⟩ := evalsK_sound hr h2
    exact SilN.of h4 (v := .func f (fs.map a.eval) (cap.map a.eval)) ⟨_, _, rfl, by simpa using h1, by simpa using h3⟩ fun w => by simp [execOp, Instr.makeFunc]
  case slice t x lo hi mx =>
    obtain ⟨ti, ht, h⟩ := tiK_some h
    obtain ⟨v, h1, h⟩ := evalK_sound hr h
    obtain ⟨l, h, hl⟩ := aopt_sound hr h
    obtain ⟨u, h, hu⟩ := aopt_sound hr h
    split at h
    · split at h
      · rename_i n e he
        obtain ⟨te, hte, h⟩ := tiK_some h
        refine (aslice_sound hT ht ?_ h h1 hl hu).next
        intro e' h0 w
        rw [he] at h0
        rcases h0 with h0 | ⟨_, h0⟩
        · cases h0
        · cases h0; exact hT.sizeOf hte w
      · rename_i e he
        obtain ⟨te, hte, h⟩ := tiK_some h
        refine (aslice_sound hT ht ?_ h h1 hl hu).next
        intro e' h0 w
        rw [he] at h0
        rcases h0 with h0 | ⟨_, h0⟩
        · cases h0; exact hT.sizeOf hte w
        · cases h0
      · rename_i hn1 hn2
        refine (aslice_sound hT ht ?_ h h1 hl hu).next
        intro e' h0 w
        rcases h0 with h0 | ⟨n, h0⟩
        · exact absurd h0 (hn2 e')
        · exact absurd h0 (hn1 n e')
    · exact h.elim
  case fieldAddr s x f =>
    obtain ⟨v, h1, h⟩ := evalK_sound hr h
    obtain ⟨ti, ht, h⟩ := tiK_some h
    obtain ⟨u, hu, hd⟩ := hT.desc ht
    split at h
    · rename_i fs e
      rw [e] at hd
      obtain ⟨gs, rfl, hfs⟩ := desc_st hd
      split at h
      · rename_i off ft hf
        obtain ⟨tf, htf, h⟩ := tiK_some h
        obtain ⟨hz, h⟩ := acond_false h
        have hsz : tf.sz ≠ 0 := fun e => by rw [e] at hz; exact absurd hz (by decide)
        rw [hfs, List.getElem?_map] at hf
        obtain ⟨fd, hf1, hf2⟩ := Option.map_eq_some_iff.mp hf
        simp only [Prod.mk.injEq] at hf2
        have hf3 : gs[f]? = some fd := by simpa using hf1
        have hs : ∀ w, (Go.sizeOf fd.type).run P w = .ok tf.sz w := fun w => by rw [hf2.2]; exact hT.sizeOf htf w
        split at h
        · obtain ⟨g, f', q, h3, h4⟩ := h1
          refine SilN.of h (v := .pointer (some ⟨g, f' + _ + off, none⟩)) ⟨g, f', q, h3, by rw [Nat.add_assoc]⟩ fun w => ?_
          simp [execOp, h4, Instr.fieldAt, Instr.sureAddr, run_underlying hu, hf3, fieldPlace, hs, hsz, hf2.1, add_zero_addr]
        · obtain ⟨g, f', c, t', fz, h3, h4, h5⟩ := h1
          refine SilN.of h (v := .pointer (some ⟨g, f' + _ + off, none⟩)) ⟨g, f', c, t', fz, h3, by rw [Nat.add_assoc], h5⟩ fun w => ?_
          simp [execOp, h4, Instr.fieldAt, Instr.sureAddr, run_underlying hu, hf3, fieldPlace, hs, hsz, hf2.1, add_zero_addr]
        · exact h.elim
      · exact h.elim
    · exact h.elim
  case field s x f =>
    obtain ⟨v, h1, h⟩ := evalK_sound hr h
    obtain ⟨ti, ht, h⟩ := tiK_some h
    obtain ⟨u, hu, hd⟩ := hT.desc ht
    split at h
    · rename_i fs e
      rw [e] at hd
      obtain ⟨gs, rfl, hfs⟩ := desc_st hd
      split at h
      · rename_i off ft hf
        obtain ⟨tf, htf, h⟩ := tiK_some h
        rw [hfs, List.getElem?_map] at hf
        obtain ⟨fd, hf1, hf2⟩ := Option.map_eq_some_iff.mp hf
        simp only [Prod.mk.injEq] at hf2
        have hf3 : gs[f]? = some fd := by simpa using hf1
        split at h
        · rename_i cs
          obtain ⟨as, h3, h4⟩ := h1
          obtain ⟨y, v, h5, h6, h7⟩ := part_run hT htf h4 h
          refine ⟨y, v, h5, h6, fun w hw => ?_⟩
          have h8 := h7 w hw
          simp only [execOp, h3, Instr.field, Sem.run_bind, run_underlying hu, Result.andThen_ok, hf3, asAgg, hf2.1, hf2.2, Sem.run_pure, h8]
        · exact h.elim
      · exact h.elim
    · exact h.elim
  case indexAddr t x y =>
    obtain ⟨ti, ht, h⟩ := tiK_some h
    obtain ⟨v, h1, h⟩ := evalK_sound hr h
    obtain ⟨u, h2, h⟩ := evalK_sound hr h
    split at h
    · rename_i k n
      obtain ⟨te, hte, h⟩ := tiK_some h
      have h2' : a.eval y = .int k n := h2
      have := (aindex_sound hT ht hte (k := k) h h1).next
      simpa only [execOp, h2'] using this
    · exact h.elim
  case index t x y =>
    obtain ⟨ti, ht, h3⟩ := tiK_some h
    clear h
    obtain ⟨v, h1, h4⟩ := evalK_sound hr h3
    clear h3
    obtain ⟨u, h2, h⟩ := evalK_sound hr h4
    clear h4
    obtain ⟨d, hd, hdd⟩ := hT.desc ht
    split at h
    · rename_i k n
      have h2' : a.eval y = .int k n := h2
      generalize ti.d = D at h hdd
      split at h
      · rename_i s
        obtain rfl := desc_str hdd
        have h1' : a.eval x = .string s := h1
        obtain ⟨⟨p1, p2⟩, h⟩ := h
        have hlt : n.toNat < s.size := by omega
        have hg : s[n.toNat]? = some s[n.toNat] := by simp [hlt]
        refine SilN.of h (v := .int .u8 ((s[n.toNat]).toNat : Int)) ?_ fun w => ?_
        · show Value.int _ _ = _
          congr 2
          have : s.data.toList.getD n.toNat 0 = s[n.toNat] := by
            rw [List.getD_eq_getElem?_getD]
            have : s.data.toList[n.toNat]? = some s[n.toNat] := by
              rw [Array.getElem?_toList]
              exact Array.getElem?_eq_getElem hlt
            rw [this]; rfl
          rw [this]
        · simp [execOp, h1', h2', Instr.index, asIntOf, run_underlying hd, p1, hg]
      · rename_i m e cs
        obtain rfl := desc_arr hdd
        obtain ⟨te, hte, h⟩ := tiK_some h
        obtain ⟨hb, h⟩ := h
        obtain ⟨as, h3, h4⟩ := h1
        obtain ⟨z, v, h5, h6, h7⟩ := part_run hT hte h4 h
        refine ⟨z, v, h5, h6, fun w hw => ?_⟩
        have h8 := h7 w hw
        simp only [execOp, h3, h2', Instr.index, asIntOf, Sem.run_bind, Sem.run_pure, run_underlying hd, Result.andThen_ok, hb, and_self, if_true, hT.sizeOf hte, h8]
      · exact h.elim
    · exact h.elim
  case extract x n =>
    obtain ⟨v, h1, h⟩ := evalK_sound hr h
    split at h
    · rename_i vs
      obtain ⟨as, h3, h4⟩ := h1
      obtain ⟨y, h5, h6⟩ := aget_some h
      obtain ⟨u, h7, h8⟩ := h4.get h5
      have h9 : as[n]? = some u := by simpa using h7
      exact SilN.of h6 h8 fun w => by simp [execOp, h3, Instr.extract, h9]
    · exact h.elim
  case makeInterface t x =>
    obtain ⟨ti, ht, h⟩ := tiK_some h
    obtain ⟨d, hd, hdd⟩ := hT.desc ht
    split at h
    · exact h.elim
    · rename_i hne
      obtain ⟨v, h1, h⟩ := evalK_sound hr h
      refine SilN.of h ⟨_, rfl, h1⟩ fun w => ?_
      simp only [execOp, Instr.makeInterface, Sem.run_bind, run_underlying hd, Result.andThen_ok]
      cases d <;> first | rfl | (generalize ti.d = D at hdd hne; cases D <;> first | exact absurd rfl hne | cases hdd)
  case call c =>
    obtain ⟨callee, args, tys⟩ := c
    simp only at h
    split at h
    · rename_i bb hbb
      obtain ⟨vs, h1, h⟩ := evalsK_sound hr h
      have h1 : VRL E vs (args.map a.eval).toList := by simpa using h1
      split at h
      · obtain ⟨t0, htys, h⟩ := atT_some h
        obtain ⟨ti, ht, h⟩ := tiK_some h
        obtain ⟨d, hd, hdd⟩ := hT.desc ht
        generalize ti.d = D at h hdd
        split at h
        · obtain rfl := desc_sl hdd
          obtain ⟨v, hv, h2⟩ := vrl_one h1
          obtain ⟨q, rfl⟩ := vr_sl h2
          exact SilN.of h rfl fun w => by simp [execOp, resolve, invoke, builtin, Builtin.len_, arr_of_toList hv, htys, run_underlying hd, goInt]
        · obtain rfl := desc_sl hdd
          obtain ⟨v, hv, h2⟩ := vrl_one h1
          rcases h2 with ⟨rfl, a, c, rfl⟩ | ⟨g, f, c, t', fz, cap, h5, rfl, h6, h7⟩
          · exact SilN.of h rfl fun w => by simp [execOp, resolve, invoke, builtin, Builtin.len_, arr_of_toList hv, htys, run_underlying hd, goInt]
          · exact SilN.of h rfl fun w => by simp [execOp, resolve, invoke, builtin, Builtin.len_, arr_of_toList hv, htys, run_underlying hd, goInt]
        · obtain rfl := desc_str hdd
          obtain ⟨v, hv, h2⟩ := vrl_one h1
          cases h2
          exact SilN.of h rfl fun w => by simp [execOp, resolve, invoke, builtin, Builtin.len_, arr_of_toList hv, htys, run_underlying hd, goInt]
        · obtain rfl := desc_arr hdd
          obtain ⟨v, hv, h2⟩ := vrl_one h1
          exact SilN.of h rfl fun w => by simp [execOp, resolve, invoke, builtin, Builtin.len_, arr_of_toList hv, htys, run_underlying hd, goInt]
        · exact h.elim
      · obtain ⟨t0, htys, h⟩ := atT_some h
        obtain ⟨ti, ht, h⟩ := tiK_some h
        obtain ⟨d, hd, hdd⟩ := hT.desc ht
        generalize ti.d = D at h hdd
        split at h
        · obtain rfl := desc_sl hdd
          obtain ⟨v, hv, h2⟩ := vrl_one h1
          obtain ⟨q, rfl⟩ := vr_sl h2
          exact SilN.of h rfl fun w => by simp [execOp, resolve, invoke, builtin, Builtin.cap_, arr_of_toList hv, htys, run_underlying hd, goInt]
        · exact h.elim
      · split at h
        · obtain ⟨v, u, hv, h2, h3⟩ := vrl_two h1
          cases h2; cases h3
          exact SilN.of h rfl fun w => by simp [execOp, resolve, invoke, builtin, Builtin.max_, Builtin.max2, arr_of_toList hv]
        · exact h.elim
      · split at h
        · obtain ⟨v, u, hv, h2, h3⟩ := vrl_two h1
          cases h2; cases h3
          exact SilN.of h rfl fun w => by simp [execOp, resolve, invoke, builtin, Builtin.min_, Builtin.min2, arr_of_toList hv]
        · exact h.elim
      · exact h.elim
    · exact h.elim
  all_goals exact h.elim
end
end Go.AK
