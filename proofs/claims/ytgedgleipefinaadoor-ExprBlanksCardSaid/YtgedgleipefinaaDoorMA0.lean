/- Texts AK1, AK2, AK3, AK4, AK5, AK6, AK7, AK8, AK9: an evaluator of the model's code, proved sound, and what the program's functions do, for all inputs. -/
import Derived.Orders
import Derived.OrdersHeld
import Derived.Laws.AppendOwn
import Derived.Laws.CopyRow
import Derived.Laws.MakeOwn
import Derived.Below
import Derived.Laws.Concat
import Derived.Laws.Strings
set_option linter.unusedVariables false
set_option linter.unusedSimpArgs false
set_option linter.unusedSectionVars false
namespace Go.AK
open Go Go.RowKit
set_option linter.unusedSectionVars false
set_option linter.unusedVariables false
/-- An abstract value. -/
inductive AV where
  | un
  | b (x : Bool)
  | i (k : IntKind) (n : Int)
  | s (x : ByteArray)
  | p (a : Option (Nat × Nat))
  | sl (a : Option (Nat × Nat)) (z n c : Nat)
  | rp (cs : List AV) (o : Nat)
  | rs (cs : List AV) (o z n : Nat)
  | fn (f : Fn) (fs cap : List AV)
  | nilf
  | ifc (t : TypeId) (v : AV)
  | nili
  | agg (cs : List AV)
  | tup (vs : List AV)
  | m (a : Option Nat)
  deriving Inhabited
def AV.cells : AV → List AV
  | .agg cs => cs
  | v => [v]
/-- One cell's worth, of a kind that may be stored. -/
def AV.one : AV → Bool
  | .un | .agg _ | .tup _ => false
  | _ => true
def AV.kn : AV → Bool
  | .un => false
  | _ => true
inductive Blk where
  | dead
  | c (cs : List AV)
  | mp (es : List (AV × AV))
  deriving Inhabited
abbrev Heap := List Blk
abbrev Regs := List (Nat × AV)
structure Env where
  ρ : List (Nat × Nat × Nat)
  Im : Nat → Option Obj
mutual
def VR (E : Env) : AV → Value → Prop
  | .un, _ => True
  | .b x, v => v = .bool x
  | .i k n, v => v = .int k n
  | .s x, v => v = .string x
  | .p none, v => v = .pointer none
  | .p (some (j, o)), v => ∃ g f q, E.ρ[j]? = some (g, f, q) ∧ v = .pointer (some ⟨g, f + o, none⟩)
  | .sl none _ n c, v => n = 0 ∧ c = 0 ∧ v = .slice none 0 0
  | .sl (some (j, o)) z n c, v => ∃ g f q o', E.ρ[j]? = some (g, f, q) ∧ v = .slice (some ⟨g, o', none⟩) n c ∧ n ≤ c ∧ (o' = f + o ∧ f + o + c * z ≤ q ∨ c = 0)
  | .rp cs o, v => ∃ g f c t fz, E.Im g = some (.cells c t fz) ∧ v = .pointer (some ⟨g, f + o, none⟩) ∧ VRP E cs (c.toList.drop f)
  | .rs cs o z n, v => (n = 0 ∧ ∃ a c, v = .slice a 0 c) ∨ ∃ g f c t fz cap, E.Im g = some (.cells c t fz) ∧ v = .slice (some ⟨g, f + o, none⟩) n cap ∧ n ≤ cap ∧ VRP E cs (c.toList.drop f)
  | .fn f fs cap, v => ∃ a b, v = .func f a b ∧ VRL E fs a.toList ∧ VRL E cap b.toList
  | .nilf, v => v = .nilFunc
  | .ifc t x, v => ∃ u, v = .iface t u ∧ VR E x u
  | .nili, v => v = .nilIface
  | .agg cs, v => ∃ a, v = .agg a ∧ VRL E cs a.toList
  | .tup cs, v => ∃ a, v = .tuple a ∧ VRL E cs a.toList
  | .m none, v => v = .map none
  | .m (some j), v => ∃ g f q, E.ρ[j]? = some (g, f, q) ∧ v = .map (some g)
def VRL (E : Env) : List AV → List Value → Prop
  | [], vs => vs = []
  | x :: xs, vs => ∃ v vs', vs = v :: vs' ∧ VR E x v ∧ VRL E xs vs'
def VRP (E : Env) : List AV → List Value → Prop
  | [], _ => True
  | x :: xs, vs => ∃ v vs', vs = v :: vs' ∧ VR E x v ∧ VRP E xs vs'
end
structure Env.le (E E' : Env) : Prop where
  pre : ∀ (j : Nat) (x : Nat × Nat × Nat), E.ρ[j]? = some x → E'.ρ[j]? = some x
  im : ∀ g o, E.Im g = some o → E'.Im g = some o
theorem Env.le.refl (E : Env) : E.le E := ⟨fun _ _ h => h, fun _ _ h => h⟩
theorem Env.le.trans {A B C : Env} (h : A.le B) (k : B.le C) : A.le C := ⟨fun j x hj => k.pre j x (h.pre j x hj), fun g o hg => k.im g o (h.im g o hg)⟩
mutual
theorem VR.mono {E E' : Env} (h : E.le E') : ∀ (x : AV) (v : Value), VR E x v → VR E' x v
  | .un, _, _ => trivial
  | .b _, _, hv => hv
  | .i _ _, _, hv => hv
  | .s _, _, hv => hv
  | .p none, _, hv => hv
  | .p (some (j, o)), v, ⟨g, f, q, h1, h2⟩ => ⟨g, f, q, h.pre _ _ h1, h2⟩
  | .sl none _ _ _, _, hv => hv
  | .sl (some (j, o)) z n c, v, ⟨g, f, q, o', h1, h2⟩ => ⟨g, f, q, o', h.pre _ _ h1, h2⟩
  | .rp cs o, v, ⟨g, f, c, t, fz, h1, h2, h3⟩ => ⟨g, f, c, t, fz, h.im _ _ h1, h2, VRP.mono h cs _ h3⟩
  | .rs cs o z n, v, .inl h1 => .inl h1
  | .rs cs o z n, v, .inr ⟨g, f, c, t, fz, cap, h1, h2, h3, h4⟩ => .inr ⟨g, f, c, t, fz, cap, h.im _ _ h1, h2, h3, VRP.mono h cs _ h4⟩
  | .fn f fs cap, v, ⟨a, b, h1, h2, h3⟩ => ⟨a, b, h1, VRL.mono h fs _ h2, VRL.mono h cap _ h3⟩
  | .nilf, _, hv => hv
  | .ifc t x, v, ⟨u, h1, h2⟩ => ⟨u, h1, VR.mono h x u h2⟩
  | .nili, _, hv => hv
  | .agg cs, v, ⟨a, h1, h2⟩ => ⟨a, h1, VRL.mono h cs _ h2⟩
  | .tup cs, v, ⟨a, h1, h2⟩ => ⟨a, h1, VRL.mono h cs _ h2⟩
  | .m none, _, hv => hv
  | .m (some j), v, ⟨g, f, q, h1, h2⟩ => ⟨g, f, q, h.pre _ _ h1, h2⟩
theorem VRL.mono {E E' : Env} (h : E.le E') : ∀ (xs : List AV) (vs : List Value), VRL E xs vs → VRL E' xs vs
  | [], _, hv => hv
  | x :: xs, vs, ⟨v, vs', h1, h2, h3⟩ => ⟨v, vs', h1, VR.mono h x v h2, VRL.mono h xs vs' h3⟩
theorem VRP.mono {E E' : Env} (h : E.le E') : ∀ (xs : List AV) (vs : List Value), VRP E xs vs → VRP E' xs vs
  | [], _, _ => trivial
  | x :: xs, vs, ⟨v, vs', h1, h2, h3⟩ => ⟨v, vs', h1, VR.mono h x v h2, VRP.mono h xs vs' h3⟩
end
theorem VRL.length {E : Env} : ∀ {xs : List AV} {vs : List Value}, VRL E xs vs → vs.length = xs.length
  | [], _, h => by cases h; rfl
  | x :: xs, _, ⟨v, vs', h1, _, h3⟩ => by subst h1; simp [VRL.length h3]
theorem VRP.length {E : Env} : ∀ {xs : List AV} {vs : List Value}, VRP E xs vs → xs.length ≤ vs.length
  | [], _, _ => Nat.zero_le _
  | x :: xs, _, ⟨v, vs', h1, _, h3⟩ => by subst h1; simpa using VRP.length h3
theorem VRL.pfx {E : Env} : ∀ {xs : List AV} {vs : List Value}, VRL E xs vs → ∀ ws, VRP E xs (vs ++ ws)
  | [], _, _, _ => trivial
  | x :: xs, _, ⟨v, vs', h1, h2, h3⟩, ws => by subst h1; exact ⟨v, vs' ++ ws, rfl, h2, VRL.pfx h3 ws⟩
theorem VRL.vrp {E : Env} {xs : List AV} {vs : List Value} (h : VRL E xs vs) : VRP E xs vs := by simpa using h.pfx []
theorem VRP.get {E : Env} : ∀ {xs : List AV} {vs : List Value} {i : Nat} {x : AV}, VRP E xs vs → xs[i]? = some x → ∃ v, vs[i]? = some v ∧ VR E x v
  | x :: xs, _, 0, y, ⟨v, vs', h1, h2, h3⟩, h => by subst h1; simp at h; subst h; exact ⟨v, rfl, h2⟩
  | x :: xs, _, i + 1, y, ⟨v, vs', h1, h2, h3⟩, h => by subst h1; simpa using VRP.get h3 (by simpa using h)
  | [], _, _, _, _, h => by simp at h
theorem VRP.drop {E : Env} : ∀ {xs : List AV} {vs : List Value} (n : Nat), VRP E xs vs → VRP E (xs.drop n) (vs.drop n)
  | xs, vs, 0, h => by simpa using h
  | [], _, n + 1, _ => by simp [VRP]
  | x :: xs, _, n + 1, ⟨v, vs', h1, h2, h3⟩ => by subst h1; simpa using VRP.drop n h3
theorem VRP.take {E : Env} : ∀ {xs : List AV} {vs : List Value} (n : Nat), VRP E xs vs → n ≤ xs.length → VRL E (xs.take n) (vs.take n)
  | xs, vs, 0, _, _ => by simp [VRL]
  | [], _, n + 1, _, h => by simp at h
  | x :: xs, _, n + 1, ⟨v, vs', h1, h2, h3⟩, h => by subst h1; exact ⟨v, vs'.take n, by simp, h2, VRP.take n h3 (by simpa using h)⟩
theorem VRP.set {E : Env} : ∀ {xs : List AV} {vs : List Value} (n : Nat) {x : AV} {v : Value}, VRP E xs vs → VR E x v → n < xs.length → VRP E (xs.set n x) (vs.set n v)
  | [], _, n, _, _, _, _, h => by simp at h
  | y :: xs, _, 0, x, v, ⟨u, vs', h1, h2, h3⟩, hv, _ => by subst h1; exact ⟨v, vs', by simp, hv, h3⟩
  | y :: xs, _, n + 1, x, v, ⟨u, vs', h1, h2, h3⟩, hv, h => by subst h1; exact ⟨u, vs'.set n v, by simp, h2, VRP.set n h3 hv (by simpa using h)⟩
theorem VRL.get {E : Env} {xs : List AV} {vs : List Value} {i : Nat} {x : AV} (h : VRL E xs vs) (hx : xs[i]? = some x) : ∃ v, vs[i]? = some v ∧ VR E x v := h.vrp.get hx
theorem VRL.append {E : Env} : ∀ {xs ys : List AV} {vs ws : List Value}, VRL E xs vs → VRL E ys ws → VRL E (xs ++ ys) (vs ++ ws)
  | [], _, _, _, h, k => by cases h; simpa using k
  | x :: xs, _, _, _, ⟨v, vs', h1, h2, h3⟩, k => by subst h1; exact ⟨v, _, rfl, h2, VRL.append h3 k⟩
theorem AV.one_cell {E : Env} {x : AV} {v : Value} (h : VR E x v) (ho : x.one = true) : v.oneCell' = true := by
  cases x with
  | un => simp [AV.one] at ho
  | agg _ => simp [AV.one] at ho
  | tup _ => simp [AV.one] at ho
  | b _ => cases h; rfl
  | i _ _ => cases h; rfl
  | s _ => cases h; rfl
  | p a =>
    rcases a with _ | ⟨j, o⟩
    · cases h; rfl
    · obtain ⟨g, f, q, _, rfl⟩ := h; rfl
  | sl a z n c =>
    rcases a with _ | ⟨j, o⟩
    · obtain ⟨_, _, rfl⟩ := h; rfl
    · obtain ⟨g, f, q, o', _, rfl, _⟩ := h; rfl
  | rp cs o => obtain ⟨g, f, c, t, fz, _, rfl, _⟩ := h; rfl
  | rs cs o z n =>
    rcases h with ⟨_, a, c, rfl⟩ | ⟨g, f, c, t, fz, cap, _, rfl, _⟩ <;> rfl
  | fn f fs cap => obtain ⟨a, b, rfl, _⟩ := h; rfl
  | nilf => cases h; rfl
  | ifc t x => obtain ⟨u, rfl, _⟩ := h; rfl
  | nili => cases h; rfl
  | m a =>
    rcases a with _ | j
    · cases h; rfl
    · obtain ⟨g, f, q, _, rfl⟩ := h; rfl
/-- A value's cells. -/
theorem VR.cells {E : Env} {x : AV} {v : Value} (h : VR E x v) (hx : x ≠ .un) : VRL E x.cells v.cells.toList := by
  cases x with
  | un => exact absurd rfl hx
  | agg cs => obtain ⟨a, rfl, h⟩ := h; exact h
  | tup cs => obtain ⟨a, rfl, h1⟩ := h; exact ⟨_, [], rfl, ⟨a, rfl, h1⟩, rfl⟩
  | b _ => cases h; exact ⟨_, [], rfl, rfl, rfl⟩
  | i _ _ => cases h; exact ⟨_, [], rfl, rfl, rfl⟩
  | s _ => cases h; exact ⟨_, [], rfl, rfl, rfl⟩
  | p a =>
    rcases a with _ | ⟨j, o⟩
    · cases h; exact ⟨_, [], rfl, rfl, rfl⟩
    · obtain ⟨g, f, q, h1, rfl⟩ := h; exact ⟨_, [], rfl, ⟨g, f, q, h1, rfl⟩, rfl⟩
  | sl a z n c =>
    rcases a with _ | ⟨j, o⟩
    · obtain ⟨h1, h2, rfl⟩ := h; exact ⟨_, [], rfl, ⟨h1, h2, rfl⟩, rfl⟩
    · obtain ⟨g, f, q, o', h1, rfl, h2⟩ := h; exact ⟨_, [], rfl, ⟨g, f, q, o', h1, rfl, h2⟩, rfl⟩
  | rp cs o => obtain ⟨g, f, c, t, fz, h1, rfl, h2⟩ := h; exact ⟨_, [], rfl, ⟨g, f, c, t, fz, h1, rfl, h2⟩, rfl⟩
  | rs cs o z n =>
    rcases h with ⟨h0, a, c, rfl⟩ | ⟨g, f, c, t, fz, cap, h1, rfl, h2⟩
    · exact ⟨_, [], rfl, .inl ⟨h0, a, c, rfl⟩, rfl⟩
    · exact ⟨_, [], rfl, .inr ⟨g, f, c, t, fz, cap, h1, rfl, h2⟩, rfl⟩
  | fn f fs cap => obtain ⟨a, b, rfl, h1⟩ := h; exact ⟨_, [], rfl, ⟨a, b, rfl, h1⟩, rfl⟩
  | nilf => cases h; exact ⟨_, [], rfl, rfl, rfl⟩
  | ifc t x => obtain ⟨u, rfl, h1⟩ := h; exact ⟨_, [], rfl, ⟨u, rfl, h1⟩, rfl⟩
  | nili => cases h; exact ⟨_, [], rfl, rfl, rfl⟩
  | m a =>
    rcases a with _ | j
    · cases h; exact ⟨_, [], rfl, rfl, rfl⟩
    · obtain ⟨g, f, q, h1, rfl⟩ := h; exact ⟨_, [], rfl, ⟨g, f, q, h1, rfl⟩, rfl⟩
/-- What is known of the program's variables: of the objects that stay as they are. -/
structure GlobsD where
  ok : (Nat → Option Obj) → Prop
  mono : ∀ I I', (∀ g o, I g = some o → I' g = some o) → ok I → ok I'
abbrev Globs := Inhabited GlobsD
abbrev Globs.ok [G : Globs] : (Nat → Option Obj) → Prop := G.default.ok
theorem Globs.mono [G : Globs] : ∀ I I', (∀ g o, I g = some o → I' g = some o) → Globs.ok I → Globs.ok I' := G.default.mono
end Go.AK
namespace Go.AK
open Go Go.RowKit
set_option linter.unusedSectionVars false
variable [Globs]
set_option linter.unusedVariables false
def Env.push (E : Env) (x : Nat × Nat × Nat) : Env := ⟨E.ρ ++ [x], E.Im⟩
theorem Env.le_push (E : Env) (x : Nat × Nat × Nat) : E.le (E.push x) :=
  ⟨fun j y h => by
    have hj : j < E.ρ.length := (List.getElem?_eq_some_iff.mp h).1
    simp only [Env.push]; rw [List.getElem?_append_left hj]; exact h, fun _ _ h => h⟩
def alive (H : Heap) (j : Nat) : Prop := ∃ b, H[j]? = some b ∧ b ≠ .dead
mutual
def VRM (E : Env) : List (AV × AV) → List MapEntry → Prop
  | [], es => es = []
  | (k, x) :: xs, es => ∃ e es', es = e :: es' ∧ VR E k e.key ∧ VR E x e.val ∧ VRM E xs es'
end
theorem VRM.mono {E E' : Env} (h : E.le E') : ∀ (xs : List (AV × AV)) (vs : List MapEntry), VRM E xs vs → VRM E' xs vs
  | [], _, hv => hv
  | (k, x) :: xs, es, ⟨e, es', h1, h2, h3, h4⟩ => ⟨e, es', h1, h2.mono h, h3.mono h, VRM.mono h xs es' h4⟩
/-- The heap's blocks lie in the world's. -/
structure Rel (E : Env) (H : Heap) (w : World) : Prop where
  len : E.ρ.length = H.length
  blk : ∀ (j : Nat) cs, H[j]? = some (.c cs) → ∃ g f c t, E.ρ[j]? = some (g, f, c.size) ∧ w.heap[g]? = some (.cells c t (0, 0)) ∧ VRP E cs (c.toList.drop f)
  mp : ∀ (j : Nat) es, H[j]? = some (.mp es) → ∃ g f q es' k, E.ρ[j]? = some (g, f, q) ∧ w.heap[g]? = some (.map es' k) ∧ VRM E es es'.toList
  inj : ∀ (j j' : Nat) (x x' : Nat × Nat × Nat), alive H j → alive H j' → E.ρ[j]? = some x → E.ρ[j']? = some x' → x.1 = x'.1 → j = j'
  lt : ∀ (j : Nat) (x : Nat × Nat × Nat), E.ρ[j]? = some x → x.1 < w.heap.size
  im : ∀ g o, E.Im g = some o → w.heap[g]? = some o
  imd : ∀ (j : Nat) (x : Nat × Nat × Nat), alive H j → E.ρ[j]? = some x → E.Im x.1 = none
  gl : Globs.ok E.Im
/-- What a call, or a part of one, may have done since E0, w0. -/
structure Ext (E0 : Env) (w0 : World) (E : Env) (w : World) : Prop where
  le : E0.le E
  new : ∀ (j : Nat) (x : Nat × Nat × Nat), E0.ρ.length ≤ j → E.ρ[j]? = some x → w0.heap.size ≤ x.1 ∨ ∃ (j' : Nat) (x' : Nat × Nat × Nat), E0.ρ[j']? = some x' ∧ x'.1 = x.1
  imn : ∀ g o, E.Im g = some o → E0.Im g = some o ∨ w0.heap.size ≤ g ∨ ∃ (j' : Nat) (x' : Nat × Nat × Nat), E0.ρ[j']? = some x' ∧ x'.1 = g
  os : w.os = w0.os
  tape : w.tape = w0.tape
  output : w.output = w0.output
  size : w0.heap.size ≤ w.heap.size
  keep : ∀ g, g < w0.heap.size → (∀ (j : Nat) (x : Nat × Nat × Nat), E0.ρ[j]? = some x → x.1 ≠ g) → w.heap[g]? = w0.heap[g]?
theorem Ext.refl (E : Env) (w : World) : Ext E w E w :=
  ⟨.refl E, fun j x h hx => by have := (List.getElem?_eq_some_iff.mp hx).1; omega, fun _ _ h => .inl h, rfl, rfl, rfl, Nat.le_refl _, fun _ _ _ => rfl⟩
theorem Ext.trans {E0 E1 E2 : Env} {w0 w1 w2 : World} (h : Ext E0 w0 E1 w1) (k : Ext E1 w1 E2 w2) : Ext E0 w0 E2 w2 := by
  have img : ∀ (j : Nat) (x : Nat × Nat × Nat), E1.ρ[j]? = some x → w0.heap.size ≤ x.1 ∨ ∃ (j' : Nat) (x' : Nat × Nat × Nat), E0.ρ[j']? = some x' ∧ x'.1 = x.1 := by
    intro j x hx
    by_cases hj : E0.ρ.length ≤ j
    · exact h.new j x hj hx
    · have hl : j < E0.ρ.length := by omega
      have e0 : E0.ρ[j]? = some E0.ρ[j] := List.getElem?_eq_getElem hl
      have := h.le.pre j _ e0
      rw [hx] at this
      cases this
      exact .inr ⟨j, _, e0, rfl⟩
  refine ⟨h.le.trans k.le, ?_, ?_, k.os.trans h.os, k.tape.trans h.tape, k.output.trans h.output, Nat.le_trans h.size k.size, ?_⟩
  · intro j x hj hx
    by_cases hj1 : E1.ρ.length ≤ j
    · rcases k.new j x hj1 hx with h1 | ⟨j', x', h1, h2⟩
      · exact .inl (Nat.le_trans h.size h1)
      · rw [← h2]; exact img j' x' h1
    · have hl : j < E1.ρ.length := by omega
      have e1 : E1.ρ[j]? = some E1.ρ[j] := List.getElem?_eq_getElem hl
      have := k.le.pre j _ e1
      rw [hx] at this
      cases this
      exact img j _ e1
  · intro g o hg
    rcases k.imn g o hg with h1 | h1 | ⟨j', x', h1, h2⟩
    · exact h.imn g o h1
    · exact .inr (.inl (Nat.le_trans h.size h1))
    · rcases img j' x' h1 with h3 | h3
      · exact .inr (.inl (h2 ▸ h3))
      · exact .inr (.inr (by rw [← h2]; exact h3))
  · intro g hg hn
    rw [← h.keep g hg hn]
    refine k.keep g (Nat.lt_of_lt_of_le hg h.size) fun j x hx e => ?_
    rcases img j x hx with h1 | ⟨j', x', h1, h2⟩
    · omega
    · exact hn j' x' h1 (h2.trans e)
theorem alive.lt {H : Heap} {j : Nat} (h : alive H j) : j < H.length := by
  obtain ⟨b, hb, _⟩ := h
  exact (List.getElem?_eq_some_iff.mp hb).1
/-- A new block. -/
theorem Rel.alloc {E : Env} {H : Heap} {w : World} (h : Rel E H w) {cs : List AV} {c : Array Value} {t : TypeId} (f : Nat) (hv : VRP E cs (c.toList.drop f)) :
    Rel (E.push (w.heap.size, f, c.size)) (H ++ [.c cs]) (w.alloc (.cells c t (0, 0))) ∧ Ext E w (E.push (w.heap.size, f, c.size)) (w.alloc (.cells c t (0, 0))) := by
  have hle := E.le_push (w.heap.size, f, c.size)
  have hold : ∀ k, k < w.heap.size → (w.alloc (.cells c t (0, 0))).heap[k]? = w.heap[k]? := fun k hk => Below.heap_alloc _ _ _ hk
  have hnew : (w.alloc (.cells c t (0, 0))).heap[w.heap.size]? = some (.cells c t (0, 0)) := by
    show (w.heap.push _)[w.heap.size]? = _
    simp
  have hsz : (w.alloc (.cells c t (0, 0))).heap.size = w.heap.size + 1 := by
    show (w.heap.push _).size = _
    simp
  have hget : ∀ j (b : Blk), (H ++ [Blk.c cs])[j]? = some b → (H[j]? = some b ∧ j < H.length) ∨ (j = H.length ∧ b = .c cs) := by
    intro j b hb
    rcases Nat.lt_trichotomy j H.length with h1 | h1 | h1
    · rw [List.getElem?_append_left h1] at hb; exact .inl ⟨hb, h1⟩
    · subst h1; rw [List.getElem?_append_right (Nat.le_refl _)] at hb; simp at hb; exact .inr ⟨rfl, hb.symm⟩
    · rw [List.getElem?_eq_none (by simp; omega)] at hb; cases hb
  have hρ : ∀ j (x : Nat × Nat × Nat), (E.push (w.heap.size, f, c.size)).ρ[j]? = some x → (E.ρ[j]? = some x ∧ j < H.length) ∨ (j = H.length ∧ x = (w.heap.size, f, c.size)) := by
    intro j x hx
    simp only [Env.push] at hx
    rcases Nat.lt_trichotomy j E.ρ.length with h1 | h1 | h1
    · rw [List.getElem?_append_left h1] at hx; exact .inl ⟨hx, h.len ▸ h1⟩
    · subst h1; rw [List.getElem?_append_right (Nat.le_refl _)] at hx; simp at hx; exact .inr ⟨h.len, hx.symm⟩
    · rw [List.getElem?_eq_none (by simp; omega)] at hx; cases hx
  have hlast : (E.push (w.heap.size, f, c.size)).ρ[H.length]? = some (w.heap.size, f, c.size) := by
    simp only [Env.push]; rw [← h.len, List.getElem?_append_right (Nat.le_refl _)]; simp
  refine ⟨⟨by simp [Env.push, h.len], ?_, ?_, ?_, ?_, ?_, ?_, h.gl⟩, ⟨hle, ?_, fun g o hg => .inl hg, rfl, rfl, rfl, by omega, fun g hg _ => hold g hg⟩⟩
  · intro j cs' hj
    rcases hget j _ hj with ⟨h1, _⟩ | ⟨h1, h2⟩
    · obtain ⟨g, f', c', t', e1, e2, e3⟩ := h.blk j cs' h1
      exact ⟨g, f', c', t', hle.pre _ _ e1, (hold g (h.lt _ _ e1)).trans e2, e3.mono hle⟩
    · cases h2; subst h1; exact ⟨_, f, c, t, hlast, hnew, hv.mono hle⟩
  · intro j es hj
    rcases hget j _ hj with ⟨h1, _⟩ | ⟨h1, h2⟩
    · obtain ⟨g, f', q, es', k, e1, e2, e3⟩ := h.mp j es h1
      exact ⟨g, f', q, es', k, hle.pre _ _ e1, (hold g (h.lt _ _ e1)).trans e2, e3.mono hle⟩
    · cases h2
  · intro j j' x x' ha ha' hx hx' e
    obtain ⟨b, hb, hd⟩ := ha
    obtain ⟨b', hb', hd'⟩ := ha'
    rcases hρ j x hx with ⟨h1, l1⟩ | ⟨h1, rfl⟩ <;> rcases hρ j' x' hx' with ⟨h2, l2⟩ | ⟨h2, rfl⟩
    · refine h.inj j j' x x' ⟨b, ?_, hd⟩ ⟨b', ?_, hd'⟩ h1 h2 e
      · rwa [List.getElem?_append_left l1] at hb
      · rwa [List.getElem?_append_left l2] at hb'
    · have := h.lt _ _ h1; simp only at e; omega
    · have := h.lt _ _ h2; simp only at e; omega
    · omega
  · intro j x hx
    rcases hρ j x hx with ⟨h1, _⟩ | ⟨_, rfl⟩
    · have := h.lt _ _ h1; omega
    · simp only; omega
  · intro g o hg
    have hg' : E.Im g = some o := hg
    have := h.im g o hg'
    have hl : g < w.heap.size := (Array.getElem?_eq_some_iff.mp this).1
    exact (hold g hl).trans this
  · intro j x ha hx
    obtain ⟨b, hb, hd⟩ := ha
    rcases hρ j x hx with ⟨h1, l1⟩ | ⟨_, rfl⟩
    · exact h.imd j x ⟨b, by rwa [List.getElem?_append_left l1] at hb, hd⟩ h1
    · show E.Im w.heap.size = none
      cases hE : E.Im w.heap.size with
      | none => rfl
      | some o => have := h.im _ _ hE; have := (Array.getElem?_eq_some_iff.mp this).1; omega
  · intro j x hj hx
    rcases hρ j x hx with ⟨h1, l1⟩ | ⟨_, rfl⟩
    · have := h.len; omega
    · exact .inl (Nat.le_refl _)
/-- A block's cells are put anew. -/
theorem Rel.setRow {E : Env} {H : Heap} {w : World} (h : Rel E H w) {j g f : Nat} {cs cs' : List AV} {c c' : Array Value} {t : TypeId} (hj : H[j]? = some (.c cs)) (hρ : E.ρ[j]? = some (g, f, c.size))
    (hg : w.heap[g]? = some (.cells c t (0, 0))) (hs : c'.size = c.size) (hv : VRP E cs' (c'.toList.drop f)) :
    Rel E (H.set j (.c cs')) (w.setRow g c') ∧ Ext E w E (w.setRow g c') := by
  have hjl : j < H.length := (List.getElem?_eq_some_iff.mp hj).1
  have hfar : ∀ k, k ≠ g → (w.setRow g c').heap[k]? = w.heap[k]? := fun k hk => by
    simp only [World.setRow, Array.getElem?_modify]; rw [if_neg (by omega)]
  have hhere : (w.setRow g c').heap[g]? = some (.cells c' t (0, 0)) := by
    simp only [World.setRow, Array.getElem?_modify, if_true, hg, Option.map_some]
  have hsz : (w.setRow g c').heap.size = w.heap.size := by simp [World.setRow]
  have hal : ∀ k, alive (H.set j (.c cs')) k → alive H k := by
    rintro k ⟨b, hb, hd⟩
    by_cases e : j = k
    · subst e; exact ⟨_, hj, by simp⟩
    · rw [List.getElem?_set_ne e] at hb; exact ⟨b, hb, hd⟩
  have haj : alive H j := ⟨_, hj, by simp⟩
  refine ⟨⟨by simp [h.len], ?_, ?_, fun a b x x' ha hb => h.inj a b x x' (hal a ha) (hal b hb), fun a x hx => by rw [hsz]; exact h.lt a x hx, ?_, fun a x ha => h.imd a x (hal a ha), h.gl⟩, ⟨.refl E, ?_, fun _ _ h => .inl h, rfl, rfl, rfl, by omega, ?_⟩⟩
  · intro k ds hk
    by_cases e : j = k
    · subst e
      rw [List.getElem?_set_self hjl] at hk
      cases hk
      exact ⟨g, f, c', t, by rw [hs]; exact hρ, hhere, hv⟩
    · rw [List.getElem?_set_ne e] at hk
      obtain ⟨g', f', c1, t', e1, e2, e3⟩ := h.blk k ds hk
      have hne : g' ≠ g := fun eg => e (h.inj j k _ _ haj ⟨_, hk, by simp⟩ hρ e1 eg.symm)
      exact ⟨g', f', c1, t', e1, (hfar _ hne).trans e2, e3⟩
  · intro k es hk
    by_cases e : j = k
    · subst e; rw [List.getElem?_set_self hjl] at hk; cases hk
    · rw [List.getElem?_set_ne e] at hk
      obtain ⟨g', f', q, es', kk, e1, e2, e3⟩ := h.mp k es hk
      have hne : g' ≠ g := fun eg => e (h.inj j k _ _ haj ⟨_, hk, by simp⟩ hρ e1 eg.symm)
      exact ⟨g', f', q, es', kk, e1, (hfar _ hne).trans e2, e3⟩
  · intro g' o ho
    have hne : g' ≠ g := fun eg => by
      have := h.imd j _ haj hρ
      simp only at this
      rw [← eg, ho] at this; cases this
    exact (hfar _ hne).trans (h.im g' o ho)
  · intro a x ha hx
    have := (List.getElem?_eq_some_iff.mp hx).1; omega
  · intro g' _ hn
    exact hfar g' fun e => hn j _ hρ e.symm
/-- A block is given up. -/
theorem Rel.kill {E : Env} {H : Heap} {w : World} (h : Rel E H w) (j : Nat) : Rel E (H.set j .dead) w := by
  have hal : ∀ k, alive (H.set j .dead) k → alive H k ∧ k ≠ j := by
    rintro k ⟨b, hb, hd⟩
    by_cases e : j = k
    · subst e
      by_cases hl : j < H.length
      · rw [List.getElem?_set_self hl] at hb; cases hb; exact absurd rfl hd
      · rw [List.getElem?_eq_none (by simp; omega)] at hb; cases hb
    · rw [List.getElem?_set_ne e] at hb; exact ⟨⟨b, hb, hd⟩, fun e' => e e'.symm⟩
  refine ⟨by simp [h.len], ?_, ?_, fun a b x x' ha hb => h.inj a b x x' (hal a ha).1 (hal b hb).1, h.lt, h.im, fun a x ha => h.imd a x (hal a ha).1, h.gl⟩
  · intro k ds hk
    have e : j ≠ k := fun e => (hal k ⟨_, hk, by simp⟩).2 e.symm
    rw [List.getElem?_set_ne e] at hk
    exact h.blk k ds hk
  · intro k es hk
    have e : j ≠ k := fun e => (hal k ⟨_, hk, by simp⟩).2 e.symm
    rw [List.getElem?_set_ne e] at hk
    exact h.mp k es hk
end Go.AK
namespace Go.AK
open Go Go.RowKit
set_option linter.unusedSectionVars false
variable [Globs]
set_option linter.unusedVariables false
/-! Types. -/
inductive TD where
  | int (k : IntKind) | bool | str | ptr (e : Nat) | sl (e : Nat) | arr (n e : Nat) | st (fs : List (Nat × Nat)) | fn | ifc | mp (k v : Nat)
structure TI where
  d : TD
  sz : Nat
  by_ : Nat
  zero : AV
/-- A zero value, told. -/
def zeroB : AV → Value → Bool
  | .i k n, .int k' m => k == k' && n == m
  | .b x, .bool y => x == y
  | .s x, .string y => x.data.toList == y.data.toList
  | .p none, .pointer none => true
  | .sl none _ 0 0, .slice none 0 0 => true
  | .nilf, .nilFunc => true
  | .nili, .nilIface => true
  | .m none, .map none => true
  | _, _ => false
def zerosB : List AV → List Value → Bool
  | [], [] => true
  | x :: xs, v :: vs => zeroB x v && zerosB xs vs
  | _, _ => false
def zeroBB : AV → Value → Bool
  | .agg cs, .agg a => zerosB cs a.toList
  | x, v => zeroB x v
def descB (d : TD) (u : TypeDesc) : Bool :=
  match d, u with
  | .int k, .int k' => k == k'
  | .bool, .bool => true
  | .str, .string => true
  | .ptr e, .pointer e' => e == e'
  | .sl e, .slice e' => e == e'
  | .arr n e, .array n' e' => n == n' && e == e'
  | .st fs, .struct gs => fs == gs.toList.map fun f => (f.offset, f.type)
  | .fn, .func _ _ _ => true
  | .ifc, .interface _ => true
  | .mp k v, .map k' v' => k == k' && v == v'
  | _, _ => false
def tiB (P : Program) (t : Nat) (ti : TI) : Bool :=
  (match P.underlying t with | some u => descB ti.d u && (match u with | .struct gs => gs.toList.all fun f => (P.info? f.type).isSome | _ => true) | none => false) &&
  (match P.info? t with | some i => i.size == ti.sz && i.bytes == ti.by_ && (match i.zero with | some z => zeroBB ti.zero z && z.cells.size == ti.sz | none => false) | none => false)
abbrev TT := List (Nat × TI)
def tiOf : TT → Nat → Option TI
  | [], _ => none
  | (t, ti) :: r, u => if Nat.beq t u then some ti else tiOf r u
def TOK (P : Program) (T : TT) : Prop := ∀ t ti, tiOf T t = some ti → tiB P t ti = true
/-! The evaluator. -/
inductive ARes where
  | ret (v : AV)
  | pan (v : AV)
inductive AX where
  | normal
  | exit (id : Nat)
  | ret
  | panic (v : AV)
def acond (t : Bool) (A B : Prop) : Prop :=
  match t with
  | true => A
  | false => B
def getR : Regs → Nat → Option AV
  | [], _ => none
  | (t, v) :: r, u => if Nat.beq t u then some v else getR r u
def ofConst0 : Value → Option AV
  | .bool x => some (.b x)
  | .int k n => some (.i k n)
  | .string x => some (.s x)
  | .pointer none => some (.p none)
  | .slice none 0 0 => some (.sl none 0 0 0)
  | .map none => some (.m none)
  | .nilFunc => some .nilf
  | .nilIface => some .nili
  | _ => none
def ofConsts : List Value → Option (List AV)
  | [] => some []
  | v :: vs => match ofConst0 v with
    | some x => match ofConsts vs with
      | some xs => some (x :: xs)
      | none => none
    | none => none
def ofConst : Value → Option AV
  | .agg a => match ofConsts a.toList with
    | some xs => some (.agg xs)
    | none => none
  | v => ofConst0 v
def evalK (r : Regs) (o : Operand) (K : AV → Prop) : Prop :=
  match o with
  | .tmp t => match getR r t with
    | some v => K v
    | none => False
  | .const v => match ofConst v with
    | some v => K v
    | none => False
  | .func f => K (.fn (.func f) [] [])
  | .global _ => False
def evalsK (r : Regs) : List Operand → (List AV → Prop) → Prop
  | [], K => K []
  | o :: os, K => evalK r o fun v => evalsK r os fun vs => K (v :: vs)
def tiK (T : TT) (t : Nat) (K : TI → Prop) : Prop :=
  match tiOf T t with
  | some ti => K ti
  | none => False
def atT (tys : Array Nat) (i : Nat) (K : Nat → Prop) : Prop :=
  match tys[i]? with
  | some t => K t
  | none => False
def aget (xs : List AV) (i : Nat) (K : AV → Prop) : Prop :=
  match xs[i]? with
  | some v => K v
  | none => False
def acells (xs : List AV) (o : Nat) : Nat → (List AV → Prop) → Prop
  | 0, K => K []
  | n + 1, K => aget xs o fun v => acells xs (o + 1) n fun vs => K (v :: vs)
def ablk (H : Heap) (j : Nat) (K : List AV → Prop) : Prop :=
  match H[j]? with
  | some (.c cs) => K cs
  | _ => False
def isAggD : TD → Bool
  | .st _ => true
  | .arr _ _ => true
  | _ => false
def aload (ti : TI) (cs : List AV) (o : Nat) (K : AV → Prop) : Prop :=
  acond (isAggD ti.d) (acells cs o ti.sz fun vs => K (.agg vs)) (aget cs o K)
def setCells : List AV → Nat → List AV → List AV
  | cs, _, [] => cs
  | cs, o, v :: vs => setCells (cs.set o v) (o + 1) vs
def ones : List AV → Bool
  | [] => true
  | x :: xs => x.one && ones xs
/-- A slice's cells. -/
def arow (H : Heap) (z : Nat) (v : AV) (K : List AV → Nat → Prop) : Prop :=
  match v with
  | .sl none _ _ _ => K [] 0
  | .sl (some (j, o)) z' n _ => acond (Nat.beq z' z) (ablk H j fun cs => o + n * z ≤ cs.length ∧ K ((cs.drop o).take (n * z)) n) False
  | .rs cs o z' n => acond (Nat.beq z' z) (o + n * z ≤ cs.length ∧ K ((cs.drop o).take (n * z)) n) False
  | _ => False
def aint (op : BinOp) (k : IntKind) (a b : Int) (K : AV → Prop) : Prop :=
  match op with
  | .add => K (.i k (k.wrap (a + b)))
  | .sub => K (.i k (k.wrap (a - b)))
  | .mul => K (.i k (k.wrap (a * b)))
  | .quo => b ≠ 0 ∧ K (.i k (k.wrap (a.tdiv b)))
  | .rem => b ≠ 0 ∧ K (.i k (a.tmod b))
  | .and => K (.i k (bits .and k a b))
  | .or => K (.i k (bits .or k a b))
  | .xor => K (.i k (bits .xor k a b))
  | .andNot => K (.i k (bits .andNot k a b))
  | .eql => K (.b (a == b))
  | .neq => K (.b (a != b))
  | .lss => K (.b (decide (a < b)))
  | .leq => K (.b (decide (a ≤ b)))
  | .gtr => K (.b (decide (a > b)))
  | .geq => K (.b (decide (a ≥ b)))
  | .shl => False
  | .shr => False
/-- Two that are asked whether they are one. -/
def aeq (ck : Bool) (d : TD) (v u : AV) (K : Bool → Prop) : Prop :=
  match d, v, u with
  | .bool, .b x, .b y => K (x == y)
  | .ptr _, .p none, .p a => K a.isNone
  | .ptr _, .p (some _), .p none => K false
  | .ptr _, .rp _ _, .p none => K false
  | .ptr _, .p none, .rp _ _ => K false
  | .sl _, .sl none _ _ _, .sl a _ _ _ => K a.isNone
  | .sl _, .sl (some _) _ _ _, .sl none _ _ _ => K false
  | .fn, .nilf, .nilf => K true
  | .fn, .nilf, .fn _ _ _ => K false
  | .fn, .fn _ _ _, .nilf => K false
  | .ifc, .nili, .ifc _ _ => K false
  | .ifc, .ifc _ _, .nili => K false
  | .ifc, .nili, .nili => acond ck (K true) False
  | _, _, _ => False
def isConstB : Operand → Bool
  | .const _ => true
  | _ => false
def eqS (v u : AV) (K : Bool → Prop) : Prop :=
  match v, u with
  | .i k a, .i k' b => acond (decide (k = k')) (K (a == b)) False
  | .b a, .b b => K (a == b)
  | _, _ => False
def eqL : List AV → List AV → (Bool → Prop) → Prop
  | [], [], K => K true
  | x :: xs, y :: ys, K => eqS x y fun t => eqL xs ys fun u => K (t && u)
  | _, _, _ => False
def kindA : AV → Option IntKind
  | .i k _ => some k
  | _ => none
def kindOf : Option IntKind → Value → Prop
  | some k, v => ∃ a, v = .int k a
  | none, v => ∃ b, v = .bool b
def kindsOf : List (Option IntKind) → List Value → Prop
  | [], vs => vs = []
  | k :: ks, vs => ∃ v vs', vs = v :: vs' ∧ kindOf k v ∧ kindsOf ks vs'
/-- Types of which two are one if their cells are: told by the seat. -/
def flatEq (P : Program) (t : Nat) (ks : List (Option IntKind)) : Prop :=
  ∀ (xs ys : Array Value) (w : World) (r : Bool), kindsOf ks xs.toList → kindsOf ks ys.toList →
    (r = true ↔ ∀ (i : Nat) v u, xs.toList[i]? = some v → ys.toList[i]? = some u → v = u) →
    (Op.equalIn 10000 t (.agg xs) (.agg ys)).run P w = .ok r w ∧ ∀ op x y, (eqGuard op t x y (.agg xs) (.agg ys)).run P w = .ok () w
section
variable (P : Program) (T : TT) (ip : Bool)
def abin (ck : Bool) (op : BinOp) (t : Nat) (v u : AV) (K : AV → Prop) : Prop :=
  match v, u with
  | .i k a, .i k' b => match op with
    | .shl => 0 ≤ b ∧ K (.i k (k.wrap (a * 2 ^ min b.toNat k.bits)))
    | .shr => 0 ≤ b ∧ K (.i k (a.fdiv (2 ^ min b.toNat k.bits)))
    | op => acond (decide (k = k')) (aint op k a b K) False
  | .s x, .s y => match op with
    | .add => x.size + y.size ≤ 9223372036854775807 ∧ K (.s (x ++ y))
    | .eql => K (.b (x.data.toList == y.data.toList))
    | .neq => K (.b (!(x.data.toList == y.data.toList)))
    | .lss => K (.b (Op.bytesLess x.toList y.toList))
    | _ => False
  | .agg xs, .agg ys => match op with
    | .eql => flatEq P t (xs.map kindA) ∧ eqL xs ys fun t => K (.b t)
    | .neq => flatEq P t (xs.map kindA) ∧ eqL xs ys fun t => K (.b (!t))
    | _ => False
  | v, u => match op with
    | .eql => tiK T t fun ti => aeq ck ti.d v u fun t => K (.b t)
    | .neq => tiK T t fun ti => aeq ck ti.d v u fun t => K (.b (!t))
    | _ => False
def abounds (lo hi : Option AV) (n c : Nat) (k : Nat → Nat → Prop) : Prop :=
  match lo, hi with
  | none, none => k 0 n
  | some (.i _ l), none => (0 ≤ l ∧ l ≤ n) ∧ k l.toNat n
  | none, some (.i _ h) => (0 ≤ h ∧ h ≤ c) ∧ k 0 h.toNat
  | some (.i _ l), some (.i _ h) => (0 ≤ l ∧ l ≤ h ∧ h ≤ c) ∧ k l.toNat h.toNat
  | _, _ => False
def aslice (ti : TI) (sz : Nat) (v : AV) (lo : Option AV) (hi : Option AV) (K : AV → Prop) : Prop :=
  match ti.d, v with
  | .str, .s x => abounds lo hi x.size x.size fun l h => K (.s (x.extract l h))
  | .sl e, .sl (some (j, o)) z n c => acond (Nat.beq z sz) (abounds lo hi n c fun l h => K (.sl (some (j, o + l * z)) z (h - l) (c - l))) False
  | .sl e, .sl none z n c => abounds lo hi 0 0 fun l h => K (.sl none z 0 0)
  | .sl e, .rs cs o z n => acond (Nat.beq z sz) (abounds lo hi n n fun l h => K (.rs cs (o + l * z) z (h - l))) False
  | .arr n e, .rp cs o => acond (Nat.beq sz 1) (abounds lo hi n n fun l h => K (.rs cs (o + l) 1 (h - l))) False
  | _, _ => False
def aopt (r : Regs) (o : Option Operand) (K : Option AV → Prop) : Prop :=
  match o with
  | none => K none
  | some x => evalK r x fun v => K (some v)
def aindex (ti te : TI) (v : AV) (i : Int) (K : AV → Prop) : Prop :=
  match ti.d, v with
  | .sl e, .sl (some (j, o)) z n _ => acond (Nat.beq z te.sz) ((0 ≤ i ∧ i < n) ∧ K (.p (some (j, o + i.toNat * z)))) False
  | .sl e, .rs cs o z n => acond (Nat.beq z te.sz) ((0 ≤ i ∧ i < n) ∧ K (.rp cs (o + i.toNat * z))) False
  | .arr n e, .p (some (j, o)) => (0 ≤ i ∧ i < n) ∧ K (.p (some (j, o + i.toNat * te.sz)))
  | .arr n e, .rp cs o => (0 ≤ i ∧ i < n) ∧ K (.rp cs (o + i.toNat * te.sz))
  | _, _ => False
def elemT : TD → Nat
  | .sl e => e
  | .arr _ e => e
  | _ => 0
/-- A place in what is built: field number n. -/
def aplace (fs : List (Nat × Nat)) (te : Nat → Option TI) (n : Nat) : Option (Nat × Nat) :=
  match fs[n]? with
  | some (o, t) => match te t with
    | some x => some (o, x.sz)
    | none => none
  | none => none
def alist : List AV → (List AV → Prop) → Prop
  | [], K => K []
  | x :: xs, K => alist xs fun ys => K (x :: ys)
theorem alist_eq : ∀ (xs : List AV) (K : List AV → Prop), alist xs K = K xs
  | [], K => rfl
  | x :: xs, K => by unfold alist; rw [alist_eq xs]
def afill (place : Nat → Option (Nat × Nat)) (K : List AV → Prop) : List AV → List (Nat × AV) → Prop
  | cs, [] => K cs
  | cs, (n, v) :: rest => match place n with
    | some (o, z) => acond (v.kn && (Nat.beq v.cells.length z && Nat.ble (o + z) cs.length)) (alist (setCells cs o v.cells) fun cs => afill place K cs rest) False
    | none => False
/-- A call, by a body or by the model's own entry. -/
def CallsX (f : Nat) (vs : Array Value) (w : World) (Q : Ending → World → Prop) : Prop :=
  (∃ fn, P.funcs[f]? = some fn ∧ fn.body.isNone = false ∧ Calls P f vs w Q) ∨ ∃ v w', (callFunc f vs).run P w = .ok (.value v) w' ∧ Q (.returned v) w'
structure ACall (f : Nat) (args : List AV) (H : Heap) (K : ARes → Heap → Prop) : Prop where
  there : ∃ fn, P.funcs[f]? = some fn ∧ (fn.name == "runtime.NumGoroutine") = false
  run : ∀ (E : Env) (w : World) (vs : Array Value), Rel E H w → VRL E args vs.toList →
    CallsX P f vs w fun e w' => ∃ r E' H', Ext E w E' w' ∧ Rel E' H' w' ∧ K r H' ∧
      match r, e with
      | .ret x, .returned v => VR E' x v
      | .pan x, .panicked chain => ∃ v, chain = [{ v, recovered := false }] ∧ VR E' x v
      | _, _ => False
def aappend (te : TI) (H : Heap) (s x : AV) (K : AV → Heap → Prop) : Prop :=
  arow H te.sz s fun olds n => arow H te.sz x fun news m =>
  match s with
  | .sl none _ _ _ => acond (Nat.beq m 0) (K (.sl none te.sz 0 0) H)
      (ones news = true ∧ m * 2 * te.by_ ≤ 281474976710656 ∧ m * 2 ≤ 9223372036854775807 ∧ ∀ c, m ≤ c → K (.sl (some (H.length, 0)) te.sz m c) (H ++ [.c news]))
  | .sl (some (j, o)) _ _ c => match ip with
    | true => ones news = true ∧ n + m ≤ c ∧ ablk H j fun cs => o + (n + m) * te.sz ≤ cs.length ∧ K (.sl (some (j, o)) te.sz (n + m) c) (H.set j (.c (setCells cs (o + n * te.sz) news)))
    | false => ones news = true ∧ (n + m) * 2 * te.by_ ≤ 281474976710656 ∧ (n + m) * 2 ≤ 9223372036854775807 ∧
        ∀ c, n + m ≤ c → K (.sl (some (H.length, 0)) te.sz (n + m) c) (H.set j .dead ++ [.c (olds ++ news)])
  | _ => False
def bysOf (L : List Int) : List AV := L.map (.i .u8)
def strOf (L : List Int) : ByteArray := ⟨(L.map fun n => UInt8.ofNat n.toNat).toArray⟩
/-- The place of a text in a map's keys. -/
def amfind : List (AV × AV) → ByteArray → (Option AV → Prop) → Prop
  | [], _, K => K none
  | (.s x, v) :: es, k, K => acond (k.data.toList == x.data.toList) (K (some v)) (amfind es k K)
  | _ :: _, _, _ => False
def amap (H : Heap) (j : Nat) (K : List (AV × AV) → Prop) : Prop :=
  match H[j]? with
  | some (.mp es) => K es
  | _ => False
/-- A row of bytes as a text. -/
def abytes (T : TT) (H : Heap) (s d : Nat) (v : AV) (K : AV → Prop) : Prop :=
  tiK T s fun ts => tiK T d fun td => match ts.d, td.d with
  | .sl e, .str => tiK T e fun te => match te.d with
    | .int .u8 => acond (Nat.beq te.sz 1) (arow H 1 v fun cs n => ∃ L, cs = bysOf L ∧ K (.s (strOf L))) False
    | _ => False
  | _, _ => False
/-- Operations that look at no memory that may be written, and change none. -/
def asil (r : Regs) (o : Op) (K : AV → Prop) : Prop :=
  match o with
  | .move x => evalK r x K
  | .assign x => evalK r x K
  | .pick c a b => evalK r c fun v => match v with
    | .b t => acond t (evalK r a K) (evalK r b K)
    | _ => False
  | .nilCheck x => evalK r x fun v => match v with
    | .p (some a) => K (.p (some a))
    | .rp cs o => K (.rp cs o)
    | .fn (.func f) fs us => K (.fn (.func f) fs us)
    | .ifc t u => K (.ifc t u)
    | _ => False
  | .build t ps => tiK T t fun ti => evalsK r (ps.toList.map (·.2)) fun vs => match ti.d with
    | .st fs => afill (aplace fs (tiOf T)) (fun cs => K (.agg cs)) ti.zero.cells ((ps.toList.map (·.1)).zip vs)
    | .arr _ e => tiK T e fun te => afill (fun n => some (n * te.sz, te.sz)) (fun cs => K (.agg cs)) ti.zero.cells ((ps.toList.map (·.1)).zip vs)
    | _ => False
  | .load t x => evalK r x fun v => tiK T t fun ti => match v with
    | .rp cs o => aload ti cs o K
    | _ => False
  | .binOp op t x y _ => evalK r x fun v => evalK r y fun u => abin P T (isConstB x || isConstB y) op t v u K
  | .unOp op _ x => evalK r x fun v => match op, v with
    | .not, .b t => K (.b (!t))
    | .neg, .i k n => K (.i k (k.wrap (0 - n)))
    | _, _ => False
  | .convert s d x => evalK r x fun v => tiK T s fun ts => tiK T d fun td => match td.d, v with
    | .int k, .i _ n => K (.i k (k.wrap n))
    | .str, .s x => K (.s x)
    | _, _ => False
  | .makeFunc f fs cap => evalsK r fs.toList fun vs => evalsK r cap.toList fun us => K (.fn f vs us)
  | .slice t x lo hi mx => tiK T t fun ti => evalK r x fun v => aopt r lo fun l => aopt r hi fun h => match mx with
    | none => match ti.d with
      | .arr n e => tiK T e fun te => aslice ti te.sz v l h K
      | .sl e => tiK T e fun te => aslice ti te.sz v l h K
      | _ => aslice ti 0 v l h K
    | some y => evalK r y fun m => match ti.d, v, l, h, m with
      | .sl e, .sl (some (j, o)) z n c, some (.i _ l), some (.i _ h), .i _ m => tiK T e fun te => acond (Nat.beq z te.sz) ((0 ≤ l ∧ l ≤ h ∧ h ≤ m ∧ m ≤ c) ∧ K (.sl (some (j, o + l.toNat * z)) z (h.toNat - l.toNat) (m.toNat - l.toNat))) False
      | _, _, _, _, _ => False
  | .fieldAddr s x f => evalK r x fun v => tiK T s fun ti => match ti.d with
    | .st fs => match fs[f]? with
      | some (off, ft) => tiK T ft fun tf => acond (Nat.beq tf.sz 0) False (match v with
        | .p (some (j, o)) => K (.p (some (j, o + off)))
        | .rp cs o => K (.rp cs (o + off))
        | _ => False)
      | none => False
    | _ => False
  | .field s x f => evalK r x fun v => tiK T s fun ti => match ti.d with
    | .st fs => match fs[f]? with
      | some (off, ft) => tiK T ft fun tf => match v with
        | .agg cs => aload tf cs off K
        | _ => False
      | none => False
    | _ => False
  | .indexAddr t x y => tiK T t fun ti => evalK r x fun v => evalK r y fun u => match u with
    | .i _ n => tiK T (elemT ti.d) fun te => aindex ti te v n K
    | _ => False
  | .index t x y => tiK T t fun ti => evalK r x fun v => evalK r y fun u => match u with
    | .i _ n => match ti.d, v with
      | .str, .s x => (0 ≤ n ∧ n < x.size) ∧ K (.i .u8 (((x.data.toList.getD n.toNat 0).toNat : Nat) : Int))
      | .arr m e, .agg cs => tiK T e fun te => (0 ≤ n ∧ n < m) ∧ aload te cs (n.toNat * te.sz) K
      | _, _ => False
    | _ => False
  | .extract x n => evalK r x fun v => match v with
    | .tup vs => aget vs n K
    | _ => False
  | .makeInterface t x => tiK T t fun ti => match ti.d with
    | .ifc => False
    | _ => evalK r x fun v => K (.ifc t v)
  | .typeAssert x _ t ok => evalK r x fun v => tiK T t fun ti => match ti.d, v with
    | .ifc, _ => False
    | _, .ifc u y => acond (Nat.beq u t) (acond ok (K (.tup [y, .b true])) (K y)) (acond ok (K (.tup [ti.zero, .b false])) False)
    | _, _ => False
  | .call c => match c.callee with
    | .builtin b => evalsK r c.args.toList fun vs => match b with
      | .len => atT c.argTypes 0 fun t0 => tiK T t0 fun ti => match ti.d, vs with
        | .sl _, [.sl _ _ n _] => K (.i .i64 n)
        | .sl _, [.rs _ _ _ n] => K (.i .i64 n)
        | .str, [.s x] => K (.i .i64 x.size)
        | .arr n _, [_] => K (.i .i64 n)
        | _, _ => False
      | .cap => atT c.argTypes 0 fun t0 => tiK T t0 fun ti => match ti.d, vs with
        | .sl _, [.sl _ _ _ c] => K (.i .i64 c)
        | _, _ => False
      | .max => match vs with
        | [.i k a, .i _ b] => K (.i k (if b > a then b else a))
        | _ => False
      | .min => match vs with
        | [.i k a, .i _ b] => K (.i k (if b < a then b else a))
        | _ => False
      | _ => False
    | _ => False
  | _ => False
/-- 'append(s, make([]T, k)...)' -/
def aappz (te : TI) (H : Heap) (s : AV) (k : Int) (K : AV → Heap → Prop) : Prop :=
  arow H te.sz s fun olds n => (0 ≤ k ∧ (n + k.toNat) * 2 * te.by_ ≤ 281474976710656 ∧ (n + k.toNat) * 2 ≤ 9223372036854775807) ∧
  match s with
  | .sl none _ _ _ => (k = 0 → K (.sl none te.sz 0 0) H) ∧
      (0 < k → ∀ c, k.toNat ≤ c → K (.sl (some (H.length, 0)) te.sz k.toNat c) (H ++ [.c (List.replicate k.toNat te.zero.cells).flatten]))
  | .sl (some (j, o)) _ _ c => acond (ones te.zero.cells) ((c < n + k.toNat ∧ ∀ c', n + k.toNat ≤ c' → K (.sl (some (H.length, 0)) te.sz (n + k.toNat) c') (H ++ [.c (olds ++ (List.replicate k.toNat te.zero.cells).flatten)])) ∨
      ∀ c, n + k.toNat ≤ c → K (.sl (some (H.length, 0)) te.sz (n + k.toNat) c) (H.set j .dead ++ [.c (olds ++ (List.replicate k.toNat te.zero.cells).flatten)])) False
  | _ => False
def acall (r : Regs) (H : Heap) (c : Call) (K : ARes → Heap → Prop) : Prop :=
  match c.callee with
  | .value f => evalK r f fun fv => evalsK r c.args.toList fun vs => match fv with
    | .fn (.func g) fs cap => ACall P g (fs ++ vs ++ cap) H K
    | _ => False
  | .invoke _ _ => False
  | .builtin b => match b with
    | .append => evalsK r c.args.toList fun vs => atT c.argTypes 0 fun t0 => tiK T t0 fun ti => match ti.d, vs with
      | .sl e, [s, x] => atT c.argTypes 1 fun t1 => tiK T t1 fun tx => tiK T e fun te => match tx.d with
        | .sl _ => aappend ip te H s x fun v H' => K (.ret v) H'
        | .int _ => match x with
          | .i _ k => aappz te H s k fun v H' => K (.ret v) H'
          | _ => False
        | _ => False
      | _, _ => False
    | .copy => evalsK r c.args.toList fun vs => atT c.argTypes 0 fun t0 => tiK T t0 fun ti => match ti.d, vs with
      | .sl e, [d, x] => tiK T e fun te => arow H te.sz x fun news m => match d with
        | .sl (some (j, o)) z n _ => acond (Nat.beq z te.sz) (ones (news.take (min m n * z)) = true ∧ ablk H j fun cs => o + n * z ≤ cs.length ∧
            K (.ret (.i .i64 (min m n : Nat))) (H.set j (.c (setCells cs o (news.take (min m n * z)))))) False
        | _ => False
      | _, _ => False
    | .clear => evalsK r c.args.toList fun vs => atT c.argTypes 0 fun t0 => tiK T t0 fun ti => match ti.d, vs with
      | .sl e, [.sl (some (j, o)) z n _] => tiK T e fun te => acond (Nat.beq z te.sz && ones te.zero.cells) (ablk H j fun cs => o + n * z ≤ cs.length ∧
            K (.ret (.tup [])) (H.set j (.c (setCells cs o (List.replicate n te.zero.cells).flatten)))) False
      | _, _ => False
    | _ => asil P T r (.call c) fun v => K (.ret v) H
def aop (r : Regs) (H : Heap) (o : Op) (K : ARes → Heap → Prop) : Prop :=
  match o with
  | .box _ x => evalK r x fun v => acond (ones v.cells) (K (.ret (.p (some (H.length, 0)))) (H ++ [.c v.cells])) False
  | .alloc e => tiK T e fun ti => acond (ones ti.zero.cells) (K (.ret (.p (some (H.length, 0)))) (H ++ [.c ti.zero.cells])) False
  | .buildSlice t n ps => tiK T t fun ti => match ti.d with
    | .sl e => tiK T e fun te => evalsK r (ps.toList.map (·.2)) fun vs => acond (Nat.ble (n * te.sz) 16777216)
        (afill (fun i => some (i * te.sz, te.sz)) (fun cs => acond (ones cs) (K (.ret (.sl (some (H.length, 0)) te.sz n n)) (H ++ [.c cs])) False) (List.replicate n te.zero.cells).flatten ((ps.toList.map (·.1)).zip vs)) False
    | _ => False
  | .load t x => evalK r x fun v => tiK T t fun ti => match v with
    | .p (some (j, o)) => ablk H j fun cs => aload ti cs o fun v => K (.ret v) H
    | .rp cs o => aload ti cs o fun v => K (.ret v) H
    | _ => False
  | .store t x y => evalK r x fun v => evalK r y fun u => tiK T t fun ti => match v with
    | .p (some (j, o)) => acond (ones u.cells && Nat.beq u.cells.length ti.sz) (ablk H j fun cs => o + ti.sz ≤ cs.length ∧ K (.ret (.tup [])) (H.set j (.c (setCells cs o u.cells)))) False
    | _ => False
  | .makeSlice t l c => tiK T t fun ti => evalK r l fun lv => evalK r c fun cv => match ti.d, lv, cv with
    | .sl e, .i _ l, .i _ c => tiK T e fun te => (0 ≤ l ∧ l ≤ c ∧ (te.by_ : Int) * c ≤ 281474976710656 ∧ c ≤ 9223372036854775807) ∧
        K (.ret (.sl (some (H.length, 0)) te.sz l.toNat c.toNat)) (H ++ [.c (List.replicate c.toNat te.zero.cells).flatten])
    | _, _, _ => False
  | .panic x => evalK r x fun v => match v with
    | .ifc _ _ => K (.pan v) H
    | _ => False
  | .slice t x lo hi mx => tiK T t fun ti => evalK r x fun v => match v with
    | .p (some (j, o)) => match ti.d, mx with
      | .arr n e, none => tiK T e fun te => acond (Nat.beq te.sz 1) (ablk H j fun cs => o + n ≤ cs.length ∧ aopt r lo fun l => aopt r hi fun h => abounds l h n n fun l h => K (.ret (.sl (some (j, o + l)) 1 (h - l) (n - l))) H) False
      | _, _ => False
    | _ => asil P T r (.slice t x lo hi mx) fun v => K (.ret v) H
  | .call c => acall P T ip r H c K
  | .convert s d x => evalK r x fun v => match v with
    | .sl _ _ _ _ => abytes T H s d v fun v => K (.ret v) H
    | .rs _ _ _ _ => abytes T H s d v fun v => K (.ret v) H
    | _ => asil P T r (.convert s d x) fun v => K (.ret v) H
  | .makeMap _ none => K (.ret (.m (some H.length))) (H ++ [.mp []])
  | .insert t m k x => tiK T t fun ti => match ti.d with
    | .mp kt _ => tiK T kt fun tk => evalK r m fun mv => evalK r k fun kv => evalK r x fun xv => match tk.d, mv, kv with
      | .str, .m (some j), .s key => amap H j fun es => amfind es key fun o => match o with
        | none => K (.ret (.tup [])) (H.set j (.mp (es ++ [(.s key, xv)])))
        | some _ => False
      | _, _, _ => False
    | _ => False
  | .lookup t m k ok => tiK T t fun ti => match ti.d with
    | .mp kt et => tiK T kt fun tk => tiK T et fun te => evalK r m fun mv => evalK r k fun kv => match tk.d, mv, kv with
      | .str, .m (some j), .s key => amap H j fun es => amfind es key fun o => match o with
        | none => acond ok (K (.ret (.tup [te.zero, .b false])) H) (K (.ret te.zero) H)
        | some v => acond ok (K (.ret (.tup [v, .b true])) H) (K (.ret v) H)
      | _, _, _ => False
    | _ => False
  | o => asil P T r o fun v => K (.ret v) H
def putD (nt : Nat) (d : Option Nat) (v : AV) (r : Regs) (K : Regs → Prop) : Prop :=
  match d with
  | some d => acond (Nat.blt d nt) (K ((d, v) :: r)) False
  | none => K r
/-- One operation, as it is guarded. -/
def astep (nt : Nat) (all : Array Oper) (r : Regs) (H : Heap) (o : Oper) (K : ARes → Regs → Heap → Prop) : Prop :=
  let run := aop P T ip r H o.op fun v H' => match v with
    | .ret v => putD nt o.dst v r fun r' => K (.ret v) r' H'
    | .pan v => K (.pan v) r H'
  let skip := putD nt o.dst (.tup []) r fun r' => K (.ret (.tup [])) r' H
  match o.guard with
  | none => run
  | some (j, want) => match (all[j]?).bind (·.dst) with
    | none => False
    | some d => match getR r d with
      | some (.b t) => match want with
        | true => acond t run skip
        | false => acond t skip run
      | some (.tup []) => skip
      | _ => False
def aops (nt : Nat) (all : Array Oper) (K : AX → Regs → Heap → Prop) : List Oper → Regs → Heap → Prop
  | [], r, H => K .normal r H
  | o :: os, r, H => astep P T ip nt all r H o fun v r' H' => match v with
    | .ret _ => aops nt all K os r' H'
    | .pan v => K (.panic v) r' H'
end
end Go.AK
namespace Go.AK
open Go Go.RowKit
set_option linter.unusedSectionVars false
variable [Globs]
set_option linter.unusedVariables false
theorem acond_true {t : Bool} {A : Prop} (h : acond t A False) : t = true ∧ A := by cases t <;> simp_all [acond]
theorem acond_false {t : Bool} {A : Prop} (h : acond t False A) : t = false ∧ A := by cases t <;> simp_all [acond]
theorem zeroB_vr {x : AV} {v : Value} (h : zeroB x v = true) (E : Env) : VR E x v := by
  unfold zeroB at h
  split at h <;> first | (simp at h; done) | skip
  · simp at h; obtain ⟨rfl, rfl⟩ := h; rfl
  · simp at h; subst h; rfl
  · rename_i x y
    have e : x = y := by
      cases x; cases y; rename_i a b; simp only [beq_iff_eq] at h; congr; exact Array.toList_inj.mp h
    subst e; rfl
  all_goals first | rfl | exact ⟨rfl, rfl, rfl⟩
theorem zerosB_vr (E : Env) : ∀ {xs : List AV} {vs : List Value}, zerosB xs vs = true → VRL E xs vs
  | [], [], _ => rfl
  | x :: xs, v :: vs, h => by simp only [zerosB, Bool.and_eq_true] at h; exact ⟨v, vs, rfl, zeroB_vr h.1 E, zerosB_vr E h.2⟩
  | [], _ :: _, h => by simp [zerosB] at h
  | _ :: _, [], h => by simp [zerosB] at h
theorem zeroBB_vr {x : AV} {v : Value} (h : zeroBB x v = true) (E : Env) : VR E x v := by
  unfold zeroBB at h
  split at h
  · exact ⟨_, rfl, zerosB_vr E h⟩
  · exact zeroB_vr h E
section
variable {P : Program} {T : TT}
theorem TOK.desc (hT : TOK P T) {t : Nat} {ti : TI} (h : tiOf T t = some ti) : ∃ u, P.underlying t = some u ∧ descB ti.d u = true := by
  have := hT t ti h
  unfold tiB at this
  simp only [Bool.and_eq_true] at this
  cases hu : P.underlying t with
  | none => rw [hu] at this; simp at this
  | some u => rw [hu] at this; exact ⟨u, rfl, (Bool.and_eq_true _ _ ▸ this.1 : _ ∧ _).1⟩
theorem TOK.fields (hT : TOK P T) {t : Nat} {ti : TI} (h : tiOf T t = some ti) {gs : Array Field} (hu : P.underlying t = some (.struct gs)) : ∀ f ∈ gs.toList, (P.info? f.type).isSome = true := by
  have := hT t ti h
  unfold tiB at this
  simp only [Bool.and_eq_true] at this
  have h1 := this.1
  simp only [hu, Bool.and_eq_true] at h1
  intro f hf
  exact List.all_eq_true.mp h1.2 f hf
theorem TOK.info (hT : TOK P T) {t : Nat} {ti : TI} (h : tiOf T t = some ti) :
    ∃ i z, P.info? t = some i ∧ i.size = ti.sz ∧ i.bytes = ti.by_ ∧ i.zero = some z ∧ (∀ E, VR E ti.zero z) ∧ z.cells.size = ti.sz := by
  have := hT t ti h
  unfold tiB at this
  simp only [Bool.and_eq_true] at this
  cases hi : P.info? t with
  | none => rw [hi] at this; simp at this
  | some i =>
    have h0 := this.2
    simp only [hi, Bool.and_eq_true] at h0
    obtain ⟨⟨h1, h2⟩, h3⟩ := h0
    cases hz : i.zero with
    | none => rw [hz] at h3; simp at h3
    | some z =>
      rw [hz] at h3
      simp only [Bool.and_eq_true, beq_iff_eq] at h1 h2 h3
      exact ⟨i, z, rfl, h1, h2, hz, zeroBB_vr h3.1, h3.2⟩
theorem desc_int {k : IntKind} {u : TypeDesc} (h : descB (.int k) u = true) : u = .int k := by cases u <;> simp_all [descB]
theorem desc_str {u : TypeDesc} (h : descB .str u = true) : u = .string := by cases u <;> simp_all [descB]
theorem desc_sl {e : Nat} {u : TypeDesc} (h : descB (.sl e) u = true) : u = .slice e := by cases u <;> simp_all [descB]
theorem desc_arr {n e : Nat} {u : TypeDesc} (h : descB (.arr n e) u = true) : u = .array n e := by cases u <;> simp_all [descB]
theorem desc_st {fs : List (Nat × Nat)} {u : TypeDesc} (h : descB (.st fs) u = true) : ∃ gs, u = .struct gs ∧ fs = gs.toList.map fun f => (f.offset, f.type) := by
  cases u <;> simp_all [descB]
theorem desc_agg {d : TD} {u : TypeDesc} (h : descB d u = true) : (match u with | .struct _ => true | .array _ _ => true | _ => false) = isAggD d := by
  cases d <;> cases u <;> first | rfl | cases h
theorem TOK.isAgg (hT : TOK P T) {t : Nat} {ti : TI} (h : tiOf T t = some ti) (w : World) : (isAgg t).run P w = .ok (isAggD ti.d) w := by
  obtain ⟨u, hu, hd⟩ := hT.desc h
  have := desc_agg hd
  simp only [Go.isAgg, Sem.run_bind, run_underlying hu, Result.andThen_ok]
  rw [← this]
  cases u <;> rfl
theorem TOK.sizeOf (hT : TOK P T) {t : Nat} {ti : TI} (h : tiOf T t = some ti) (w : World) : (Go.sizeOf t).run P w = .ok ti.sz w := by
  obtain ⟨i, z, h1, h2, _⟩ := hT.info h
  simp [Go.sizeOf, typeInfo, h1, h2]
theorem TOK.zeroValue (hT : TOK P T) {t : Nat} {ti : TI} (h : tiOf T t = some ti) (w : World) : ∃ z, (zeroValue t).run P w = .ok z w ∧ (∀ E, VR E ti.zero z) ∧ z.cells.size = ti.sz := by
  obtain ⟨i, z, h1, h2, h3, h4, h5, h6⟩ := hT.info h
  exact ⟨z, by simp [Go.zeroValue, typeInfo, h1, h4], h5, h6⟩
/-- The registers. -/
structure RR (nt : Nat) (E : Env) (r : Regs) (a : Act) : Prop where
  size : a.tmps.size = nt
  regs : ∀ t v, getR r t = some v → t < nt ∧ VR E v (a.tmps.getD t undef)
theorem ofConstZ_vr {v : Value} {x : AV} (h : ofConst0 v = some x) (E : Env) : VR E x v := by
  unfold ofConst0 at h
  split at h <;> first | (cases h; rfl) | (cases h; exact ⟨rfl, rfl, rfl⟩) | (cases h)
theorem ofConsts_vr (E : Env) : ∀ {vs : List Value} {xs : List AV}, ofConsts vs = some xs → VRL E xs vs
  | [], xs, h => by cases h; rfl
  | v :: vs, xs, h => by
    unfold ofConsts at h
    cases h1 : ofConst0 v with
    | none => rw [h1] at h; cases h
    | some x =>
      cases h2 : ofConsts vs with
      | none => rw [h1, h2] at h; cases h
      | some ys => rw [h1, h2] at h; cases h; exact ⟨v, vs, rfl, ofConstZ_vr h1 E, ofConsts_vr E h2⟩
theorem ofConst_vr {v : Value} {x : AV} (h : ofConst v = some x) (E : Env) : VR E x v := by
  unfold ofConst at h
  split at h
  · rename_i a
    cases h1 : ofConsts a.toList with
    | none => rw [h1] at h; cases h
    | some xs => rw [h1] at h; cases h; exact ⟨a, rfl, ofConsts_vr E h1⟩
  · exact ofConstZ_vr h E
theorem evalK_sound {nt : Nat} {E : Env} {r : Regs} {a : Act} (hr : RR nt E r a) {o : Operand} {K : AV → Prop} (h : evalK r o K) : ∃ x, VR E x (a.eval o) ∧ K x := by
  unfold evalK at h
  split at h
  · split at h
    · rename_i v hv; exact ⟨v, (hr.regs _ _ hv).2, h⟩
    · exact h.elim
  · split at h
    · rename_i v hv; exact ⟨v, ofConst_vr hv E, h⟩
    · exact h.elim
  · rename_i f; exact ⟨.fn (.func f) [] [], show VR E (.fn (.func f) [] []) (.func (.func f) #[] #[]) from ⟨#[], #[], rfl, rfl, rfl⟩, h⟩
  · exact h.elim
theorem evalsK_sound {nt : Nat} {E : Env} {r : Regs} {a : Act} (hr : RR nt E r a) : ∀ {os : List Operand} {K : List AV → Prop}, evalsK r os K → ∃ xs, VRL E xs (os.map a.eval) ∧ K xs
  | [], K, h => ⟨[], rfl, h⟩
  | o :: os, K, h => by
    obtain ⟨x, h1, h2⟩ := evalK_sound hr h
    obtain ⟨xs, h3, h4⟩ := evalsK_sound hr h2
    exact ⟨x :: xs, ⟨_, _, rfl, h1, h3⟩, h4⟩
theorem tiK_some {t : Nat} {K : TI → Prop} (h : tiK T t K) : ∃ ti, tiOf T t = some ti ∧ K ti := by
  unfold tiK at h
  split at h
  · exact ⟨_, by assumption, h⟩
  · exact h.elim
theorem aget_some {xs : List AV} {i : Nat} {K : AV → Prop} (h : aget xs i K) : ∃ x, xs[i]? = some x ∧ K x := by
  unfold aget at h
  split at h
  · exact ⟨_, by assumption, h⟩
  · exact h.elim
theorem ablk_some {H : Heap} {j : Nat} {K : List AV → Prop} (h : ablk H j K) : ∃ cs, H[j]? = some (.c cs) ∧ K cs := by
  unfold ablk at h
  split at h
  · exact ⟨_, by assumption, h⟩
  · exact h.elim
theorem acells_some {xs : List AV} : ∀ {n o : Nat} {K : List AV → Prop}, acells xs o n K → ∃ ys : List AV, ys.length = n ∧ (∀ i, i < n → xs[o + i]? = ys[i]?) ∧ K ys
  | 0, o, K, h => ⟨[], rfl, fun i hi => by omega, h⟩
  | n + 1, o, K, h => by
    obtain ⟨x, h1, h2⟩ := aget_some h
    obtain ⟨ys, h3, h4, h5⟩ := acells_some h2
    refine ⟨x :: ys, by simp [h3], fun i hi => ?_, h5⟩
    cases i with
    | zero => simpa using h1
    | succ i => rw [show o + (i + 1) = o + 1 + i from by omega]; simpa using h4 i (by omega)
theorem add_zero_addr (g o i : Nat) : (⟨g, o, none⟩ : Addr).add i = ⟨g, o + i, none⟩ := by
  unfold Addr.add
  split
  · rename_i h; subst h; rfl
  · rfl
theorem cell_of {w : World} {g : Nat} {c : Array Value} {t : TypeId} {fz : Nat × Nat} (h : w.heap[g]? = some (.cells c t fz)) (o : Nat) : w.cell? ⟨g, o, none⟩ = c[o]? := by
  simp [World.cell?, h]
/-- A variable is read. -/
theorem loadVar_run (hT : TOK P T) {E : Env} {t : Nat} {ti : TI} (ht : tiOf T t = some ti) {w : World} {g f o : Nat} {c : Array Value} {t' : TypeId} {fz : Nat × Nat} (hg : w.heap[g]? = some (.cells c t' fz)) {cs : List AV}
    (hv : VRP E cs (c.toList.drop f)) {K : AV → Prop} (h : aload ti cs o K) : ∃ x v, VR E x v ∧ K x ∧ ∀ w', w'.heap[g]? = some (.cells c t' fz) → (loadVar t ⟨g, f + o, none⟩).run P w' = .ok v w' := by
  unfold aload at h
  cases hA : isAggD ti.d with
  | false =>
    rw [hA] at h
    obtain ⟨x, h1, h2⟩ := aget_some h
    obtain ⟨v, h3, h4⟩ := hv.get h1
    rw [List.getElem?_drop] at h3
    refine ⟨x, v, h4, h2, fun w' hg' => ?_⟩
    have hc : w'.cell? ⟨g, f + o, none⟩ = some v := by rw [cell_of hg']; simpa using h3
    simp [loadVar, hT.isAgg ht, hA, run_load, hc]
  | true =>
    rw [hA] at h
    obtain ⟨ys, h1, h2, h3⟩ := acells_some h
    have hl : ∀ i, i < ti.sz → ∃ v, (c.toList.drop f)[o + i]? = some v ∧ ∃ y, ys[i]? = some y ∧ VR E y v := fun i hi => by
      have hy : ys[i]? = some ys[i] := List.getElem?_eq_getElem (by omega)
      obtain ⟨v, h4, h5⟩ := hv.get ((h2 i hi).trans hy)
      exact ⟨v, h4, _, hy, h5⟩
    have hseg : VRL E ys (((c.toList.drop f).drop o).take ti.sz) := by
      have := hv.drop o
      have hle : ti.sz ≤ (cs.drop o).length := by
        by_cases z : ti.sz = 0
        · omega
        · have h4 := h2 (ti.sz - 1) (by omega)
          have h5 : ys[ti.sz - 1]? = some ys[ti.sz - 1] := List.getElem?_eq_getElem (by omega)
          have h6 := (List.getElem?_eq_some_iff.mp (h4.trans h5)).1
          simp; omega
      have e : (cs.drop o).take ti.sz = ys := by
        apply List.ext_getElem?
        intro i
        by_cases hi : i < ti.sz
        · rw [List.getElem?_take, if_pos hi, List.getElem?_drop]; exact h2 i hi
        · rw [List.getElem?_eq_none (by simp; omega), List.getElem?_eq_none (by omega)]
      have := this.take ti.sz hle
      rwa [e] at this
    refine ⟨.agg ys, .agg (((c.toList.drop f).drop o).take ti.sz).toArray, ⟨_, rfl, by simpa using hseg⟩, h3, fun w' hg' => ?_⟩
    have hlen : (((c.toList.drop f).drop o).take ti.sz).length = ti.sz := by rw [hseg.length, h1]
    have hrun := run_loadCells_list (P := P) w' ⟨g, f + o, none⟩ (((c.toList.drop f).drop o).take ti.sz) (fun j v hj => by
      rw [add_zero_addr, cell_of hg']
      rw [List.getElem?_take] at hj
      split at hj
      · rw [List.getElem?_drop, List.getElem?_drop] at hj
        rw [← Array.getElem?_toList, show f + o + j = f + (o + j) from by omega]
        exact hj
      · cases hj)
    rw [hlen] at hrun
    simp [loadVar, hT.isAgg ht, hA, hT.sizeOf ht, hrun]
theorem setCells_eq : ∀ (us cs : List AV) (o : Nat), o + us.length ≤ cs.length → setCells cs o us = cs.take o ++ us ++ cs.drop (o + us.length)
  | [], cs, o, _ => by simp [setCells]
  | u :: us, cs, o, h => by
    simp only [List.length_cons] at h
    unfold setCells
    rw [setCells_eq us (cs.set o u) (o + 1) (by simp; omega)]
    have e1 : (cs.set o u).take (o + 1) = cs.take o ++ [u] := by
      rw [List.take_add_one]
      simp [List.take_set, List.getElem?_set_self (show o < cs.length by omega)]
      rw [List.set_eq_of_length_le (by simp; omega)]
    have e2 : (cs.set o u).drop (o + 1 + us.length) = cs.drop (o + 1 + us.length) := by
      rw [List.drop_set]; rw [if_pos (by omega)]
    rw [e1, e2]
    simp [Nat.add_assoc, Nat.add_comm 1]
theorem VRL.appendP {E : Env} : ∀ {xs ys : List AV} {vs ws : List Value}, VRL E xs vs → VRP E ys ws → VRP E (xs ++ ys) (vs ++ ws)
  | [], _, _, _, h, k => by cases h; simpa using k
  | x :: xs, _, _, _, ⟨v, vs', h1, h2, h3⟩, k => by subst h1; exact ⟨v, _, rfl, h2, VRL.appendP h3 k⟩
theorem VRP.splice {E : Env} {cs us : List AV} {c : Array Value} {vs : List Value} {f o : Nat} (hv : VRP E cs (c.toList.drop f)) (hu : VRL E us vs) (hfit : o + us.length ≤ cs.length) :
    VRP E (setCells cs o us) ((c.toList.take (f + o) ++ vs ++ c.toList.drop (f + o + vs.length)).drop f) := by
  have hlen := hv.length
  have hl := hu.length
  rw [setCells_eq us cs o hfit]
  have hcl : f + cs.length ≤ c.toList.length ∨ cs.length = 0 := by simp only [List.length_drop] at hlen; omega
  have e : (c.toList.take (f + o) ++ vs ++ c.toList.drop (f + o + vs.length)).drop f = (c.toList.drop f).take o ++ vs ++ (c.toList.drop f).drop (o + us.length) := by
    by_cases hc : f + o ≤ c.toList.length
    · rw [List.append_assoc, List.drop_append_of_le_length (by simp at hc ⊢; omega), List.drop_take, show f + o - f = o from by omega, List.drop_drop, hl, ← List.append_assoc, Nat.add_assoc]
    · have h0 : cs.length = 0 := by omega
      have ho : o = 0 := by omega
      have hus : us = [] := List.eq_nil_of_length_eq_zero (by omega)
      subst hus; cases hu; subst ho
      have hd : c.toList.drop f = [] := List.drop_eq_nil_of_le (by omega)
      simp [hd]
  rw [e]
  exact ((hv.take o (by omega)).append hu).appendP (hv.drop _)
theorem ones_all : ∀ {xs : List AV}, ones xs = true → ∀ x ∈ xs, x.one = true
  | [], _, x, hx => by cases hx
  | y :: xs, h, x, hx => by
    simp only [ones, Bool.and_eq_true] at h
    rcases List.mem_cons.mp hx with rfl | hx
    · exact h.1
    · exact ones_all h.2 x hx
theorem VRL.one {E : Env} : ∀ {xs : List AV} {vs : List Value}, VRL E xs vs → ones xs = true → ∀ v ∈ vs, v.oneCell' = true
  | [], _, h, _, v, hv => by cases h; cases hv
  | x :: xs, _, ⟨u, us, h1, h2, h3⟩, ho, v, hv => by
    subst h1
    simp only [ones, Bool.and_eq_true] at ho
    rcases List.mem_cons.mp hv with rfl | hv
    · exact AV.one_cell h2 ho.1
    · exact VRL.one h3 ho.2 v hv
/-- A row of cells is written. -/
theorem store_run {E : Env} {H : Heap} {w : World} (hR : Rel E H w) {j o g f : Nat} {cs us : List AV} {c : Array Value} {t : TypeId} (hj : H[j]? = some (.c cs)) (hρ : E.ρ[j]? = some (g, f, c.size))
    (hg : w.heap[g]? = some (.cells c t (0, 0))) (hv : VRP E cs (c.toList.drop f)) {vs : List Value} (hu : VRL E us vs) (ho : ones us = true) (hfit : o + us.length ≤ cs.length) :
    ∃ w', (storeCells ⟨g, f + o, none⟩ vs).run P w = .ok () w' ∧ Rel E (H.set j (.c (setCells cs o us))) w' ∧ Ext E w E w' := by
  have hlen := hv.length
  have hl := hu.length
  by_cases hf : f + o + vs.length ≤ c.size
  · have hrun := run_storeCells_at P g (f + o) t vs 0 c w hg (by simpa using hf) (hu.one ho)
    simp only [Nat.add_zero] at hrun
    have := hR.setRow (cs' := setCells cs o us) (c' := (c.toList.take (f + o) ++ vs ++ c.toList.drop (f + o + vs.length)).toArray) hj hρ hg (by simp; omega) (by simpa using hv.splice hu hfit)
    exact ⟨_, hrun, this.1, this.2⟩
  · have hus : us.length = 0 := by simp at hlen; omega
    have : us = [] := List.eq_nil_of_length_eq_zero hus
    subst this; cases hu
    refine ⟨w, rfl, ?_, Ext.refl _ _⟩
    have e : setCells cs o [] = cs := rfl
    rw [e]
    have e2 : H.set j (.c cs) = H := by
      apply List.ext_getElem?
      intro i
      by_cases hi : j = i
      · subst hi; rw [List.getElem?_set_self (List.getElem?_eq_some_iff.mp hj).1, hj]
      · rw [List.getElem?_set_ne hi]
    rw [e2]; exact hR
end
end Go.AK
namespace Go.AK
open Go Go.RowKit
set_option linter.unusedSectionVars false
variable [Globs]
set_option linter.unusedVariables false
/-- What is never written lies there. -/
def ImOK (E : Env) (w : World) : Prop := ∀ g o, E.Im g = some o → w.heap[g]? = some o
/-- A value is come to, in whatever world. -/
def SilR (P : Program) (E : Env) (s : Sem Value) (K : AV → Prop) : Prop :=
  ∃ y v, VR E y v ∧ K y ∧ ∀ w, ImOK E w → s.run P w = .ok v w
section
variable {P : Program} {T : TT}
theorem SilR.of {E : Env} {s : Sem Value} {K : AV → Prop} {y : AV} {v : Value} (hk : K y) (hv : VR E y v) (h : ∀ w, s.run P w = .ok v w) : SilR P E s K := ⟨y, v, hv, hk, fun w _ => h w⟩
theorem aint_sound {E : Env} {op : BinOp} {k : IntKind} {a b : Int} {K : AV → Prop} (h : aint op k a b K) (t : Nat) (ho : op ≠ .shl) (ho' : op ≠ .shr) : SilR P E (binOp op t (.int k a) (.int k b)) K := by
  cases op <;> simp only [aint] at h <;> first | exact absurd rfl ho | exact absurd rfl ho' | skip
  all_goals first
    | exact SilR.of h rfl fun w => by simp [binOp, Op.intArith, Op.intBits, Op.intCmp, bits]; done
    | exact SilR.of h rfl fun w => by simp [binOp, Op.intArith, Op.intBits, Op.intCmp, bits]; rfl
    | exact SilR.of h.2 rfl fun w => by simp [binOp, Op.intDiv, h.1]; done
theorem VRL.cons_inv {E : Env} {x : AV} {xs : List AV} {vs : List Value} (h : VRL E (x :: xs) vs) : ∃ v vs', vs = v :: vs' ∧ VR E x v ∧ VRL E xs vs' := h
theorem eqS_sound {E : Env} {x y : AV} {v u : Value} {K : Bool → Prop} (h : eqS x y K) (hx : VR E x v) (hy : VR E y u) :
    ∃ t, K t ∧ (t = true ↔ v = u) ∧ (kindOf (kindA x) v ∧ kindOf (kindA x) u) := by
  unfold eqS at h
  split at h
  · replace h := acond_true h
    obtain ⟨hb, h⟩ := h
    obtain rfl := of_decide_eq_true hb
    cases hx; cases hy
    exact ⟨_, h, by simp, ⟨_, rfl⟩, ⟨_, rfl⟩⟩
  · cases hx; cases hy
    exact ⟨_, h, by simp, ⟨_, rfl⟩, ⟨_, rfl⟩⟩
  · exact h.elim
theorem eqL_sound {E : Env} : ∀ {xs ys : List AV} {vs us : List Value} {K : Bool → Prop}, eqL xs ys K → VRL E xs vs → VRL E ys us →
    ∃ t, K t ∧ (t = true ↔ ∀ (i : Nat) v u, vs[i]? = some v → us[i]? = some u → v = u) ∧ kindsOf (xs.map kindA) vs ∧ kindsOf (xs.map kindA) us
  | [], [], vs, us, K, h, hx, hy => by
    cases hx; cases hy
    exact ⟨true, h, by simp, rfl, rfl⟩
  | [], _ :: _, _, _, _, h, _, _ => h.elim
  | _ :: _, [], _, _, _, h, _, _ => h.elim
  | x :: xs, y :: ys, vs, us, K, h, ⟨v, vs', h1, h2, h3⟩, ⟨u, us', k1, k2, k3⟩ => by
    subst h1; subst k1
    obtain ⟨t, h4, h5, h6⟩ := eqS_sound h h2 k2
    obtain ⟨t', h7, h8, h9, h10⟩ := eqL_sound h4 h3 k3
    refine ⟨t && t', h7, ?_, ⟨_, _, rfl, h6.1, h9⟩, ⟨_, _, rfl, h6.2, h10⟩⟩
    · rw [Bool.and_eq_true, h5, h8]
      constructor
      · rintro ⟨rfl, hh⟩ i p q hp hq
        cases i with
        | zero => simp at hp hq; rw [← hp, ← hq]
        | succ i => exact hh i p q (by simpa using hp) (by simpa using hq)
      · intro hh
        exact ⟨hh 0 _ _ rfl rfl, fun i p q hp hq => hh (i + 1) p q (by simpa using hp) (by simpa using hq)⟩
theorem desc_bool {u : TypeDesc} (h : descB .bool u = true) : u = .bool := by cases u <;> first | rfl | cases h
theorem desc_ptr {p : Nat} {u : TypeDesc} (h : descB (.ptr p) u = true) : ∃ e, u = .pointer e := by cases u <;> first | exact ⟨_, rfl⟩ | cases h
theorem desc_fn {u : TypeDesc} (h : descB .fn u = true) : ∃ a b c, u = .func a b c := by cases u <;> first | exact ⟨_, _, _, rfl⟩ | cases h
theorem desc_ifc {u : TypeDesc} (h : descB .ifc u = true) : ∃ a, u = .interface a := by cases u <;> first | exact ⟨_, rfl⟩ | cases h
theorem eq_help {t : Nat} {x y : Operand} {a b : Value} {r : Bool} (he : ∀ k w, (Op.equalIn (k + 1) t a b).run P w = .ok r w) (hg : ∀ op w, (eqGuard op t x y a b).run P w = .ok () w)
    (h1 : binOp .eql t a b = (do pure (.bool (← Op.equal t a b)))) (h2 : binOp .neq t a b = (do pure (.bool (!(← Op.equal t a b))))) (w : World) :
    (do eqGuard .eql t x y a b; binOp .eql t a b : Sem Value).run P w = .ok (.bool r) w ∧ (do eqGuard .neq t x y a b; binOp .neq t a b : Sem Value).run P w = .ok (.bool (!r)) w := by
  have h3 : (Op.equal t a b).run P w = .ok r w := he 9999 w
  rw [h1, h2]
  simp only [Sem.run_bind, hg, Result.andThen_ok, h3]
  exact ⟨rfl, rfl⟩
/-- '==' and '!=' of two values. -/
theorem aeq_sound (hT : TOK P T) {E : Env} {t : Nat} {ti : TI} (ht : tiOf T t = some ti) {x y : Operand} {v u : AV} {a b : Value} {K : Bool → Prop} (h : aeq (isConstB x || isConstB y) ti.d v u K) (ha : VR E v a) (hb : VR E u b) :
    ∃ r, K r ∧ ∀ w, (do eqGuard .eql t x y a b; binOp .eql t a b : Sem Value).run P w = .ok (.bool r) w ∧ (do eqGuard .neq t x y a b; binOp .neq t a b : Sem Value).run P w = .ok (.bool (!r)) w := by
  obtain ⟨d, hd, hdd⟩ := hT.desc ht
  generalize ti.d = D at h hdd
  unfold aeq at h
  split at h
  · obtain rfl := desc_bool hdd
    cases ha; cases hb
    exact ⟨_, h, eq_help (fun k w => by simp [Op.equalIn, run_underlying hd]) (fun op w => by simp [eqGuard]) rfl rfl⟩
  · rename_i _ q
    obtain ⟨_, rfl⟩ := desc_ptr hdd
    cases ha
    rcases q with _ | ⟨j, o⟩
    · cases hb; exact ⟨_, h, eq_help (fun k w => by simp [Op.equalIn, run_underlying hd]) (fun op w => by simp [eqGuard]) rfl rfl⟩
    · obtain ⟨g, f, q, _, rfl⟩ := hb
      exact ⟨_, h, eq_help (fun k w => by simp [Op.equalIn, run_underlying hd]) (fun op w => by simp [eqGuard]) rfl rfl⟩
  · rename_i q
    obtain ⟨_, rfl⟩ := desc_ptr hdd
    cases hb; rcases q with ⟨j, o⟩; obtain ⟨g, f, q, _, rfl⟩ := ha
    exact ⟨_, h, eq_help (fun k w => by simp [Op.equalIn, run_underlying hd]) (fun op w => by simp [eqGuard]) rfl rfl⟩
  · obtain ⟨_, rfl⟩ := desc_ptr hdd
    cases hb; obtain ⟨g, f, c, t', fz, _, rfl, _⟩ := ha
    exact ⟨_, h, eq_help (fun k w => by simp [Op.equalIn, run_underlying hd]) (fun op w => by simp [eqGuard]) rfl rfl⟩
  · obtain ⟨_, rfl⟩ := desc_ptr hdd
    cases ha; obtain ⟨g, f, c, t', fz, _, rfl, _⟩ := hb
    exact ⟨_, h, eq_help (fun k w => by simp [Op.equalIn, run_underlying hd]) (fun op w => by simp [eqGuard]) rfl rfl⟩
  · rename_i q _ _ _
    obtain rfl := desc_sl hdd
    obtain ⟨_, _, rfl⟩ := ha
    rcases q with _ | ⟨j, o⟩
    · obtain ⟨_, _, rfl⟩ := hb; exact ⟨_, h, eq_help (fun k w => by simp [Op.equalIn, run_underlying hd]) (fun op w => by simp [eqGuard]) rfl rfl⟩
    · obtain ⟨g, f, q, o', _, rfl, _⟩ := hb
      exact ⟨_, h, eq_help (fun k w => by simp [Op.equalIn, run_underlying hd]) (fun op w => by simp [eqGuard]) rfl rfl⟩
  · obtain rfl := desc_sl hdd
    rename_i q _ _ _ _ _ _; rcases q with ⟨j, o⟩; obtain ⟨_, _, rfl⟩ := hb; obtain ⟨g, f, q, o', _, rfl, _⟩ := ha
    exact ⟨_, h, eq_help (fun k w => by simp [Op.equalIn, run_underlying hd]) (fun op w => by simp [eqGuard]) rfl rfl⟩
  · obtain ⟨_, _, _, rfl⟩ := desc_fn hdd
    cases ha; cases hb
    exact ⟨_, h, eq_help (fun k w => by simp [Op.equalIn, run_underlying hd]) (fun op w => by simp [eqGuard]) rfl rfl⟩
  · obtain ⟨_, _, _, rfl⟩ := desc_fn hdd
    cases ha; obtain ⟨_, _, rfl, _⟩ := hb
    exact ⟨_, h, eq_help (fun k w => by simp [Op.equalIn, run_underlying hd]) (fun op w => by simp [eqGuard]) rfl rfl⟩
  · obtain ⟨_, _, _, rfl⟩ := desc_fn hdd
    cases hb; obtain ⟨_, _, rfl, _⟩ := ha
    exact ⟨_, h, eq_help (fun k w => by simp [Op.equalIn, run_underlying hd]) (fun op w => by simp [eqGuard]) rfl rfl⟩
  · obtain ⟨_, rfl⟩ := desc_ifc hdd
    cases ha; obtain ⟨_, rfl, _⟩ := hb
    exact ⟨_, h, eq_help (fun k w => by simp [Op.equalIn, run_underlying hd]) (fun op w => by simp [eqGuard]) rfl rfl⟩
  · obtain ⟨_, rfl⟩ := desc_ifc hdd
    cases hb; obtain ⟨_, rfl, _⟩ := ha
    exact ⟨_, h, eq_help (fun k w => by simp [Op.equalIn, run_underlying hd]) (fun op w => by simp [eqGuard]) rfl rfl⟩
  · obtain ⟨_, rfl⟩ := desc_ifc hdd
    cases ha; cases hb
    obtain ⟨hc, h⟩ := acond_true h
    refine ⟨_, h, eq_help (fun k w => by simp [Op.equalIn, run_underlying hd]) (fun op w => ?_) rfl rfl⟩
    cases x <;> cases y <;> first | (simp [isConstB] at hc; done) | simp [eqGuard]
  · exact h.elim
end
end Go.AK
namespace Go.AK
open Go Go.RowKit
set_option linter.unusedSectionVars false
variable [Globs]
set_option linter.unusedVariables false
section
variable {P : Program} {T : TT}
theorem abin_eq (hT : TOK P T) {E : Env} {op : BinOp} {t : Nat} {x y : Operand} {v u : AV} {a b : Value} {K : AV → Prop} (ha : VR E v a) (hb : VR E u b)
    (h : (op = .eql ∧ tiK T t fun ti => aeq (isConstB x || isConstB y) ti.d v u fun t => K (.b t)) ∨ (op = .neq ∧ tiK T t fun ti => aeq (isConstB x || isConstB y) ti.d v u fun t => K (.b (!t)))) :
    SilR P E (do eqGuard op t x y a b; binOp op t a b) K := by
  rcases h with ⟨rfl, h⟩ | ⟨rfl, h⟩
  · obtain ⟨ti, ht, h⟩ := tiK_some h
    obtain ⟨r, h1, h2⟩ := aeq_sound hT ht h ha hb
    exact SilR.of h1 rfl fun w => (h2 w).1
  · obtain ⟨ti, ht, h⟩ := tiK_some h
    obtain ⟨r, h1, h2⟩ := aeq_sound hT ht h ha hb
    exact SilR.of h1 rfl fun w => (h2 w).2
theorem abin_sound (hT : TOK P T) {E : Env} {op : BinOp} {t : Nat} {x y : Operand} {v u : AV} {a b : Value} {K : AV → Prop} (h : abin P T (isConstB x || isConstB y) op t v u K) (ha : VR E v a) (hb : VR E u b) :
    SilR P E (do eqGuard op t x y a b; binOp op t a b) K := by
  unfold abin at h
  split at h
  · rename_i k n k' m
    cases ha; cases hb
    have hg : ∀ w, (eqGuard op t x y (.int k n) (.int k' m)).run P w = .ok () w := fun w => by cases op <;> simp [eqGuard]
    split at h
    · exact SilR.of h.2 rfl fun w => by
        have := h.1
        have h0 : ¬ m < 0 := by omega
        simp only [Sem.run_bind, hg, Result.andThen_ok]
        simp [binOp, Op.shift, h0]
    · exact SilR.of h.2 rfl fun w => by
        have := h.1
        have h0 : ¬ m < 0 := by omega
        simp only [Sem.run_bind, hg, Result.andThen_ok]
        simp [binOp, Op.shift, h0]
    · rename_i ho ho'
      replace h := acond_true h
      obtain ⟨hb, h⟩ := h
      obtain rfl := of_decide_eq_true hb
      obtain ⟨z, v, h1, h2, h3⟩ := aint_sound (P := P) (E := E) h t ho ho'
      exact ⟨z, v, h1, h2, fun w hw => by simp only [Sem.run_bind, hg, Result.andThen_ok]; exact h3 w hw⟩
  · rename_i p q
    cases ha; cases hb
    have hg : ∀ w, (eqGuard op t x y (.string p) (.string q)).run P w = .ok () w := fun w => by cases op <;> simp [eqGuard]
    split at h
    · exact SilR.of h.2 rfl fun w => by
        have h1 := h.1
        simp only [Sem.run_bind, hg, Result.andThen_ok, binOp]
        exact run_string_add_sum w p q h1
    · exact SilR.of h rfl fun w => by simp only [Sem.run_bind, hg, Result.andThen_ok, binOp, Op.stringOp, ByteArray.toList_eq]; rfl
    · exact SilR.of h rfl fun w => by simp only [Sem.run_bind, hg, Result.andThen_ok, binOp, Op.stringOp, ByteArray.toList_eq]; rfl
    · exact SilR.of h rfl fun w => by simp only [Sem.run_bind, hg, Result.andThen_ok, binOp, Op.stringOp]; rfl
    · exact h.elim
  · rename_i xs ys
    obtain ⟨as, rfl, ha⟩ := ha
    obtain ⟨bs, rfl, hb⟩ := hb
    have hl := ha.length
    split at h
    · obtain ⟨hf, h⟩ := h
      obtain ⟨r, h1, h2, h3, h4⟩ := eqL_sound h ha hb
      have hr := fun w => hf as bs w r h3 h4 h2
      exact SilR.of h1 rfl fun w => by
        have he : (Op.equal t (.agg as) (.agg bs)).run P w = .ok r w := (hr w).1
        simp only [Sem.run_bind, (hr w).2, Result.andThen_ok, binOp, he]; rfl
    · obtain ⟨hf, h⟩ := h
      obtain ⟨r, h1, h2, h3, h4⟩ := eqL_sound h ha hb
      have hr := fun w => hf as bs w r h3 h4 h2
      exact SilR.of h1 rfl fun w => by
        have he : (Op.equal t (.agg as) (.agg bs)).run P w = .ok r w := (hr w).1
        simp only [Sem.run_bind, (hr w).2, Result.andThen_ok, binOp, he]; rfl
    · exact h.elim
  · cases op <;> first | exact abin_eq hT ha hb (.inl ⟨rfl, h⟩) | exact abin_eq hT ha hb (.inr ⟨rfl, h⟩) | exact h.elim
def OptR (E : Env) : Option AV → Option Value → Prop
  | none, none => True
  | some x, some v => VR E x v
  | _, _ => False
theorem OptR.none' {E : Env} {v : Option Value} (h : OptR E none v) : v = none := by cases v <;> first | rfl | exact h.elim
theorem OptR.some' {E : Env} {x : AV} {v : Option Value} (h : OptR E (some x) v) : ∃ u, v = some u ∧ VR E x u := by cases v <;> first | exact ⟨_, rfl, h⟩ | exact h.elim
theorem abounds_sound {E : Env} {lo hi : Option AV} {n c : Nat} {k : Nat → Nat → Prop} (h : abounds lo hi n c k) (hnc : n ≤ c) {lo' hi' : Option Value}
    (hl : OptR E lo lo') (hh : OptR E hi hi') (isS : Bool) :
    ∃ l r, k l r ∧ l ≤ r ∧ r ≤ c ∧ (hi = none → r = n) ∧ ∀ w, (Instr.sliceBounds isS n c lo' hi' none).run P w = .ok (l, r, c) w := by
  unfold abounds at h
  split at h
  · obtain rfl := hl.none'
    obtain rfl := hh.none'
    exact ⟨0, n, h, by omega, hnc, fun _ => rfl, fun w => rfl⟩
  · obtain ⟨_, rfl, hv⟩ := hl.some'
    skip
    obtain rfl := hh.none'
    cases hv
    exact ⟨_, n, h.2, by omega, hnc, fun _ => rfl, fun w => by simp [Instr.sliceBounds, Instr.sliceBound, asIntOf, h.1.1, h.1.2]⟩
  · obtain rfl := hl.none'
    obtain ⟨_, rfl, hv⟩ := hh.some'
    cases hv
    exact ⟨0, _, h.2, by omega, by omega, nofun, fun w => by simp [Instr.sliceBounds, Instr.sliceBound, asIntOf, h.1.1, h.1.2]⟩
  · obtain ⟨_, rfl, hv⟩ := hl.some'
    cases hv
    obtain ⟨_, rfl, hv⟩ := hh.some'
    cases hv
    rename_i a _ b
    obtain ⟨⟨h1, h2, h3⟩, h⟩ := h
    have h4 : (0 : Int) ≤ b := by omega
    have h5 : max b 0 = b := by omega
    exact ⟨_, _, h, by omega, by omega, nofun, fun w => by simp [Instr.sliceBounds, Instr.sliceBound, asIntOf, h1, h2, h3, h4, h5]⟩
  · exact h.elim
theorem aopt_sound {nt : Nat} {E : Env} {r : Regs} {a : Act} (hr : RR nt E r a) {o : Option Operand} {K : Option AV → Prop} (h : aopt r o K) :
    ∃ x, K x ∧ OptR E x (o.map a.eval) := by
  unfold aopt at h
  split at h
  · exact ⟨none, h, trivial⟩
  · obtain ⟨x, h1, h2⟩ := evalK_sound hr h
    exact ⟨some x, h2, h1⟩
theorem aslice_sound (hT : TOK P T) {E : Env} {t : Nat} {ti : TI} (ht : tiOf T t = some ti) {sz : Nat} (hsz : ∀ e, ti.d = .sl e ∨ (∃ n, ti.d = .arr n e) → ∀ w, (sizeOf e).run P w = .ok sz w) {v : AV} {a : Value} {lo hi : Option AV} {K : AV → Prop} (h : aslice ti sz v lo hi K) (hv : VR E v a) {lo' hi' : Option Value}
    (hl : OptR E lo lo') (hh : OptR E hi hi') :
    SilR P E (Instr.sliceAt t a lo' hi' none) K := by
  obtain ⟨d, hd, hdd⟩ := hT.desc ht
  unfold aslice at h
  generalize ti.d = D at h hdd hsz
  split at h
  · obtain rfl := desc_str hdd
    cases hv
    rename_i s
    obtain ⟨l, r, h1, h2, h3, _, h4⟩ := abounds_sound (P := P) h (Nat.le_refl _) hl hh false
    exact SilR.of h1 rfl fun w => by simp [Instr.sliceAt, Instr.slice, run_underlying hd, h4]
  · rename_i e j o z n c
    obtain rfl := desc_sl hdd
    replace h := acond_true h
    obtain ⟨hb, h⟩ := h
    obtain rfl := Nat.eq_of_beq_eq_true hb
    obtain ⟨g, f, q, o', h5, rfl, h6, h7⟩ := hv
    obtain ⟨l, r, h1, h2, h3, _, h4⟩ := abounds_sound (P := P) h h6 hl hh true
    have hs := hsz e (.inl rfl)
    refine SilR.of h1 (v := .slice (if c = l then some ⟨g, o', none⟩ else some ⟨g, o' + l * z, none⟩) (r - l) (c - l)) ?_ fun w => ?_
    · by_cases e : c = l
      · rw [if_pos e]; exact ⟨g, f, q, o', h5, rfl, by omega, .inr (by omega)⟩
      · rw [if_neg e]
        refine ⟨g, f, q, _, h5, rfl, by omega, ?_⟩
        rcases h7 with ⟨rfl, h7⟩ | h7
        · refine .inl ⟨by omega, ?_⟩
          have : l * z + (c - l) * z = c * z := by rw [← Nat.add_mul]; congr 1; omega
          omega
        · omega
    · simp only [Instr.sliceAt, Instr.slice, Sem.run_bind, run_underlying hd, Result.andThen_ok, h4, hs]
      by_cases e : c = l
      · simp [e]
      · simp [e, add_zero_addr]
  · rename_i e z n c
    obtain rfl := desc_sl hdd
    obtain ⟨rfl, rfl, rfl⟩ := hv
    obtain ⟨l, r, h1, h2, h3, _, h4⟩ := abounds_sound (P := P) h (Nat.le_refl _) hl hh true
    have hs := hsz e (.inl rfl)
    have el : l = 0 := by omega
    have er : r = 0 := by omega
    subst el; subst er
    exact SilR.of h1 (v := .slice none 0 0) ⟨rfl, rfl, rfl⟩ fun w => by simp [Instr.sliceAt, Instr.slice, run_underlying hd, h4, hs]
  · rename_i e cs o z n
    obtain rfl := desc_sl hdd
    replace h := acond_true h
    obtain ⟨hb, h⟩ := h
    obtain rfl := Nat.eq_of_beq_eq_true hb
    have hs := hsz e (.inl rfl)
    rcases hv with ⟨rfl, a, c, rfl⟩ | ⟨g, f, c, t', fz, cap, h5, rfl, h6, h7⟩
    · obtain ⟨l, r, h1, h2, h3, hn, h9⟩ := abounds_sound (P := P) h (Nat.le_refl _) hl hh true
      have el : l = 0 := by omega
      have er : r = 0 := by omega
      subst el; subst er
      have h8 : ∀ w, (Instr.sliceBounds true 0 c lo' hi' none).run P w = .ok (0, 0, c) w := by
        have hc := h
        unfold abounds at h
        split at h
        · obtain rfl := hl.none'
          obtain rfl := hh.none'
          exact fun w => rfl
        · obtain ⟨_, rfl, hv⟩ := hl.some'
          skip
          obtain rfl := hh.none'
          cases hv
          rename_i a0
          obtain ⟨⟨p1, p2⟩, _⟩ := h
          have : a0 = 0 := by omega
          subst this
          exact fun w => by simp [Instr.sliceBounds, Instr.sliceBound, asIntOf]
        · obtain rfl := hl.none'
          obtain ⟨_, rfl, hv⟩ := hh.some'
          cases hv
          rename_i a0
          obtain ⟨⟨p1, p2⟩, _⟩ := h
          have : a0 = 0 := by omega
          subst this
          exact fun w => by simp [Instr.sliceBounds, Instr.sliceBound, asIntOf]
        · obtain ⟨_, rfl, hv⟩ := hl.some'
          cases hv
          obtain ⟨_, rfl, hv⟩ := hh.some'
          cases hv
          rename_i a0 _ b0
          obtain ⟨⟨p1, p2, p3⟩, _⟩ := h
          have : a0 = 0 := by omega
          subst this
          have : b0 = 0 := by omega
          subst this
          exact fun w => by simp [Instr.sliceBounds, Instr.sliceBound, asIntOf]
        · exact h.elim
      refine SilR.of h1 (v := .slice (if c = 0 then a else a.map (·.add (0 * z))) 0 (c - 0)) (.inl ⟨rfl, _, _, rfl⟩) fun w => ?_
      simp [Instr.sliceAt, Instr.slice, run_underlying hd, h8, hs]
    · have h' : ∃ l r, K (.rs cs (o + l * z) z (r - l)) ∧ l ≤ r ∧ r ≤ n ∧ ∀ w, (Instr.sliceBounds true n cap lo' hi' none).run P w = .ok (l, r, cap) w := by
        unfold abounds at h
        split at h
        · obtain rfl := hl.none'
          obtain rfl := hh.none'
          exact ⟨0, n, h, by omega, by omega, fun w => rfl⟩
        · obtain ⟨_, rfl, hv⟩ := hl.some'
          skip
          obtain rfl := hh.none'
          cases hv
          exact ⟨_, n, h.2, by omega, by omega, fun w => by simp [Instr.sliceBounds, Instr.sliceBound, asIntOf, h.1.1, h.1.2]⟩
        · obtain rfl := hl.none'
          obtain ⟨_, rfl, hv⟩ := hh.some'
          cases hv
          rename_i a0
          obtain ⟨⟨p1, p2⟩, h⟩ := h
          have p3 : a0 ≤ (cap : Int) := by omega
          exact ⟨0, _, h, by omega, by omega, fun w => by simp [Instr.sliceBounds, Instr.sliceBound, asIntOf, p1, p3]⟩
        · obtain ⟨_, rfl, hv⟩ := hl.some'
          cases hv
          obtain ⟨_, rfl, hv⟩ := hh.some'
          cases hv
          rename_i a0 _ b0
          obtain ⟨⟨p1, p2, p3⟩, h⟩ := h
          have p4 : (0 : Int) ≤ b0 := by omega
          have p5 : b0 ≤ (cap : Int) := by omega
          have p6 : max b0 0 = b0 := by omega
          exact ⟨_, _, h, by omega, by omega, fun w => by simp [Instr.sliceBounds, Instr.sliceBound, asIntOf, p1, p2, p4, p5, p6]⟩
        · exact h.elim
      obtain ⟨l, r, h1, h2, h3, h4⟩ := h'
      refine SilR.of h1 (v := .slice (if cap = l then some ⟨g, f + o, none⟩ else some ⟨g, f + o + l * z, none⟩) (r - l) (cap - l)) ?_ fun w => ?_
      · by_cases e : cap = l
        · rw [if_pos e]
          have e0 : r - l = 0 := by omega
          rw [e0]
          exact .inl ⟨rfl, _, _, rfl⟩
        · rw [if_neg e]
          exact .inr ⟨g, f, c, t', fz, cap - l, h5, by rw [Nat.add_assoc], by omega, h7⟩
      · simp only [Instr.sliceAt, Instr.slice, Sem.run_bind, run_underlying hd, Result.andThen_ok, h4, hs]
        by_cases e : cap = l
        · simp [e]
        · simp [e, add_zero_addr]
  · rename_i n e cs o
    obtain rfl := desc_arr hdd
    replace h := acond_true h
    obtain ⟨hb, h⟩ := h
    obtain rfl := Nat.eq_of_beq_eq_true hb
    have hs := hsz e (.inr ⟨n, rfl⟩)
    obtain ⟨g, f, c, t', fz, h5, rfl, h6⟩ := hv
    obtain ⟨l, r, h1, h2, h3, _, h4⟩ := abounds_sound (P := P) h (Nat.le_refl _) hl hh false
    refine SilR.of h1 (v := .slice (if n = l then some ⟨g, f + o, none⟩ else some ⟨g, f + o + l, none⟩) (r - l) (n - l)) ?_ fun w => ?_
    · by_cases e : n = l
      · rw [if_pos e]
        have e0 : r - l = 0 := by omega
        rw [e0]
        exact .inl ⟨rfl, _, _, rfl⟩
      · rw [if_neg e]
        exact .inr ⟨g, f, c, t', fz, n - l, h5, by rw [Nat.add_assoc], by omega, h6⟩
    · simp only [Instr.sliceAt, Instr.sureAddr, Sem.run_bind, run_underlying hd, Result.andThen_ok, h4, hs]
      by_cases e : n = l
      · simp [e]
      · simp [e, add_zero_addr]
  · exact h.elim
end
end Go.AK
namespace Go.AK
open Go Go.RowKit
set_option linter.unusedSectionVars false
variable [Globs]
set_option linter.unusedVariables false
section
variable {P : Program} {T : TT}
theorem aindex_sound (hT : TOK P T) {E : Env} {t : Nat} {ti te : TI} (ht : tiOf T t = some ti) (hte : tiOf T (elemT ti.d) = some te) {v : AV} {a : Value} {k : IntKind} {n : Int} {K : AV → Prop} (h : aindex ti te v n K) (hv : VR E v a) :
    SilR P E (Instr.indexAt t a (.int k n)) K := by
  obtain ⟨d, hd, hdd⟩ := hT.desc ht
  have hs := hT.sizeOf hte
  unfold aindex at h
  generalize ti.d = D at h hdd hs
  split at h
  · rename_i e j o z m c
    obtain rfl := desc_sl hdd
    replace h := acond_true h
    obtain ⟨hz, hb, h⟩ := h
    obtain rfl := Nat.eq_of_beq_eq_true hz
    obtain ⟨g, f, q, o', h5, rfl, h6, h7⟩ := hv
    refine SilR.of h (v := .pointer (some ⟨g, f + o + n.toNat * te.sz, none⟩)) ⟨g, f, q, h5, by rw [Nat.add_assoc]⟩ fun w => ?_
    have e0 : o' = f + o := by
      rcases h7 with ⟨h7, _⟩ | h7
      · exact h7
      · omega
    have hs' : (sizeOf e).run P w = .ok te.sz w := hs w
    simp [Instr.indexAt, asIntOf, run_underlying hd, hb, hs', e0, add_zero_addr]
  · rename_i e cs o z m
    obtain rfl := desc_sl hdd
    replace h := acond_true h
    obtain ⟨hz, hb, h⟩ := h
    obtain rfl := Nat.eq_of_beq_eq_true hz
    rcases hv with ⟨rfl, a, c, rfl⟩ | ⟨g, f, c, t', fz, cap, h5, rfl, h6, h7⟩
    · omega
    · refine SilR.of h (v := .pointer (some ⟨g, f + o + n.toNat * te.sz, none⟩)) ⟨g, f, c, t', fz, h5, by rw [Nat.add_assoc], h7⟩ fun w => ?_
      have hs' : (sizeOf e).run P w = .ok te.sz w := hs w
      simp [Instr.indexAt, asIntOf, run_underlying hd, hb, hs', add_zero_addr]
  · rename_i m e j o
    obtain rfl := desc_arr hdd
    obtain ⟨hb, h⟩ := h
    obtain ⟨g, f, q, h5, rfl⟩ := hv
    refine SilR.of h (v := .pointer (some ⟨g, f + o + n.toNat * te.sz, none⟩)) ⟨g, f, q, h5, by rw [Nat.add_assoc]⟩ fun w => ?_
    have hs' : (sizeOf e).run P w = .ok te.sz w := hs w
    simp [Instr.indexAt, Instr.sureAddr, asIntOf, run_underlying hd, hb, hs', add_zero_addr]
  · rename_i m e cs o
    obtain rfl := desc_arr hdd
    obtain ⟨hb, h⟩ := h
    obtain ⟨g, f, c, t', fz, h5, rfl, h7⟩ := hv
    refine SilR.of h (v := .pointer (some ⟨g, f + o + n.toNat * te.sz, none⟩)) ⟨g, f, c, t', fz, h5, by rw [Nat.add_assoc], h7⟩ fun w => ?_
    have hs' : (sizeOf e).run P w = .ok te.sz w := hs w
    simp [Instr.indexAt, Instr.sureAddr, asIntOf, run_underlying hd, hb, hs', add_zero_addr]
  · exact h.elim
/-- A part of a value. -/
theorem part_run (hT : TOK P T) {E : Env} {t : Nat} {ti : TI} (ht : tiOf T t = some ti) {cs : List AV} {a : Array Value} (hv : VRL E cs a.toList) {o : Nat} {K : AV → Prop} (h : aload ti cs o K) :
    SilR P E (part t a o) K := by
  unfold aload at h
  cases hA : isAggD ti.d with
  | false =>
    rw [hA] at h
    obtain ⟨x, h1, h2⟩ := aget_some h
    obtain ⟨v, h3, h4⟩ := hv.get h1
    have h5 : a[o]? = some v := by simpa using h3
    exact SilR.of h2 h4 fun w => by simp [part, hT.isAgg ht, hA, h5]
  | true =>
    rw [hA] at h
    obtain ⟨ys, h1, h2, h3⟩ := acells_some h
    have hle : ti.sz ≤ (cs.drop o).length := by
      by_cases z : ti.sz = 0
      · omega
      · have h4 := h2 (ti.sz - 1) (by omega)
        have h5 : ys[ti.sz - 1]? = some ys[ti.sz - 1] := List.getElem?_eq_getElem (by omega)
        have h6 := (List.getElem?_eq_some_iff.mp (h4.trans h5)).1
        simp; omega
    have e : (cs.drop o).take ti.sz = ys := by
      apply List.ext_getElem?
      intro i
      by_cases hi : i < ti.sz
      · rw [List.getElem?_take, if_pos hi, List.getElem?_drop]; exact h2 i hi
      · rw [List.getElem?_eq_none (by simp; omega), List.getElem?_eq_none (by omega)]
    have hseg := (hv.vrp.drop o).take ti.sz hle
    rw [e] at hseg
    refine SilR.of h3 (v := .agg (a.extract o (o + ti.sz))) ⟨_, rfl, ?_⟩ fun w => by simp [part, hT.isAgg ht, hA, hT.sizeOf ht]
    rw [Array.toList_extract]
    simpa [List.extract_eq_take_drop] using hseg
theorem setCells_length : ∀ (us cs : List AV) (o : Nat), (setCells cs o us).length = cs.length
  | [], cs, o => rfl
  | u :: us, cs, o => by unfold setCells; rw [setCells_length us]; simp
theorem fold_vr {E : Env} : ∀ (us : List AV) (vs : List Value) (cs : List AV) (c : Array Value) (o k : Nat), VRL E us vs → VRL E cs c.toList → o + k + us.length ≤ cs.length →
    VRL E (setCells cs (o + k) us) ((vs.zipIdx k).foldl (fun cs (p : Value × Nat) => cs.setIfInBounds (o + p.2) p.1) c).toList
  | [], vs, cs, c, o, k, h, hc, _ => by cases h; exact hc
  | u :: us, _, cs, c, o, k, ⟨v, vs', h1, h2, h3⟩, hc, hl => by
    subst h1
    simp only [List.length_cons] at hl
    have hset : VRL E (cs.set (o + k) u) (c.setIfInBounds (o + k) v).toList := by
      rw [Array.toList_setIfInBounds]
      have := VRP.set (o + k) hc.vrp h2 (by omega)
      have h4 := this.take cs.length (by simp)
      rw [List.take_of_length_le (by simp)] at h4
      rw [List.take_of_length_le (by simp; have := hc.length; simp at this; omega)] at h4
      exact h4
    have := fold_vr us vs' (cs.set (o + k) u) (c.setIfInBounds (o + k) v) o (k + 1) h3 hset (by simp; omega)
    simpa [setCells, Nat.add_assoc] using this
/-- What is built. -/
theorem afill_sound {E : Env} {place place' : Nat → Option (Nat × Nat)} (hp : ∀ n x, place n = some x → place' n = some x) {K : List AV → Prop} : ∀ (ps : List (Nat × AV)) (qs : List (Nat × Value)) (cs : List AV) (c : Array Value),
    afill place K cs ps → VRL E cs c.toList → ps.map (·.1) = qs.map (·.1) → VRL E (ps.map (·.2)) (qs.map (·.2)) → ∃ ds d, K ds ∧ VRL E ds d.toList ∧ ds.length = cs.length ∧ Instr.fill place' c qs = some d
  | [], qs, cs, c, h, hc, h1, h2 => by
    cases qs with
    | nil => exact ⟨cs, c, h, hc, rfl, rfl⟩
    | cons q qs => simp at h1
  | (n, x) :: ps, qs, cs, c, h, hc, h1, h2 => by
    cases qs with
    | nil => simp at h1
    | cons q qs =>
      obtain ⟨m, v⟩ := q
      simp only [List.map_cons, List.cons.injEq] at h1
      obtain ⟨rfl, h1⟩ := h1
      obtain ⟨v', vs', e, h3, h4⟩ := h2
      simp only [List.map_cons, List.cons.injEq] at e
      obtain ⟨rfl, rfl⟩ := e
      unfold afill at h
      split at h
      · rename_i o z hpl
        obtain ⟨hb, h⟩ := acond_true h
        rw [alist_eq] at h
        simp only [Bool.and_eq_true] at hb
        have hb1 : x.cells.length = z := Nat.eq_of_beq_eq_true hb.2.1
        have hb2 : o + z ≤ cs.length := Nat.le_of_ble_eq_true hb.2.2
        have hcl := hc.length
        have hx : x ≠ .un := fun e => by rw [e] at hb; exact absurd hb.1 (by decide)
        · have hcells := h3.cells hx
          have hvl := hcells.length
          have hfold := fold_vr x.cells v.cells.toList cs c o 0 hcells hc (by omega)
          obtain ⟨ds, d, k1, k2, k3, k4⟩ := afill_sound hp ps qs (setCells cs o x.cells) _ h hfold h1 h4
          refine ⟨ds, d, k1, k2, by rw [k3, setCells_length], ?_⟩
          simp only [Instr.fill, hp _ _ hpl]
          have e1 : v.cells.size = z := by rw [← Array.length_toList, hvl, hb1]
          have e2 : ¬ (c.size < o + z) := by simp at hcl; omega
          simp only [e1, ne_eq, not_true_eq_false, gt_iff_lt, e2, decide_false, Bool.or_false, Bool.false_eq_true, if_false]
          rw [← k4]
          congr 1
          rw [← Array.foldl_toList, Array.toList_zipIdx]
      · exact h.elim
theorem mapM_run {α β : Type} (f : α → Sem β) (g : α → β) (w : World) : ∀ (xs : List α), (∀ x ∈ xs, (f x).run P w = .ok (g x) w) → (xs.mapM f).run P w = .ok (xs.map g) w
  | [], _ => rfl
  | x :: xs, h => by
    have h1 := h x (by simp)
    have h2 := mapM_run f g w xs (fun y hy => h y (by simp [hy]))
    simp only [List.mapM_cons, Sem.run_bind, h1, Result.andThen_ok, h2, List.map_cons]
    rfl
theorem amapM_run {α β : Type} (f : α → Sem β) (g : α → β) (w : World) (xs : Array α) (h : ∀ x ∈ xs.toList, (f x).run P w = .ok (g x) w) : (xs.mapM f).run P w = .ok (xs.map g) w := by
  rw [Array.mapM_eq_mapM_toList, Sem.run_map, mapM_run f g w xs.toList h]
  simp only [Result.andThen_ok]
  congr 1
  apply Array.ext'
  simp
theorem zero_kn (hT : TOK P T) {t : Nat} {ti : TI} (ht : tiOf T t = some ti) : ti.zero ≠ .un := by
  intro e
  have := hT t ti ht
  obtain ⟨i, z, hi1, hi2, hi3, hi4, _⟩ := hT.info ht
  unfold tiB at this
  simp only [hi1, hi4, e, zeroBB, zeroB, Bool.and_eq_true] at this
  simp at this
theorem build_sound (hT : TOK P T) {E : Env} {t : Nat} {ti : TI} (ht : tiOf T t = some ti) {ps : Array (Nat × Value)} {ns : List Nat} {vs : List AV} {K : AV → Prop} (hn : ns = ps.toList.map (·.1)) (hv : VRL E vs (ps.toList.map (·.2)))
    (h : match ti.d with
      | .st fs => afill (aplace fs (tiOf T)) (fun cs => K (.agg cs)) ti.zero.cells (ns.zip vs)
      | .arr _ e => tiK T e fun te => afill (fun n => some (n * te.sz, te.sz)) (fun cs => K (.agg cs)) ti.zero.cells (ns.zip vs)
      | _ => False) : SilR P E (Instr.build t ps) K := by
  obtain ⟨i, z, hi1, hi2, hi3, hi4, hi5, hi6⟩ := hT.info ht
  obtain ⟨d, hd, hdd⟩ := hT.desc ht
  have hlen := hv.length
  have hns : ns.length = vs.length := by rw [hn]; simp at hlen ⊢; omega
  have hc := (hi5 E).cells (zero_kn hT ht)
  have hm1 : (ns.zip vs).map (·.1) = ps.toList.map (·.1) := by rw [List.map_fst_zip (by omega), hn]
  have hm2 : (ns.zip vs).map (·.2) = vs := List.map_snd_zip (by omega)
  have hz : ∀ w, (Go.zeroValue t).run P w = .ok z w := fun w => by simp [Go.zeroValue, typeInfo, hi1, hi4]
  split at h
  · rename_i fs e
    rw [e] at hdd
    obtain ⟨gs, rfl, hfs⟩ := desc_st hdd
    have hall := hT.fields ht hd
    let g : Field → Nat × Nat := fun f => (f.offset, P.cellsOf f.type)
    have hrun : ∀ w, (gs.mapM (m := Sem) fun f => do pure (f.offset, ← Go.sizeOf f.type)).run P w = .ok (gs.map g) w := fun w =>
      amapM_run _ g w gs fun f hf => by
        obtain ⟨j, hj⟩ := Option.isSome_iff_exists.mp (hall f hf)
        simp [Go.sizeOf, typeInfo, hj, g, Program.cellsOf]
    have hp2 : ∀ n x, aplace fs (tiOf T) n = some x → (gs.map g)[n]? = some x := by
      intro n x hx
      unfold aplace at hx
      split at hx
      · rename_i o ft hn
        split at hx
        · rename_i tf hf
          cases hx
          rw [hfs, List.getElem?_map] at hn
          obtain ⟨f, hf1, hf2⟩ := Option.map_eq_some_iff.mp hn
          simp only [Prod.mk.injEq] at hf2
          obtain ⟨j, zz, hj1, hj2, _⟩ := hT.info hf
          rw [Array.getElem?_map, ← Array.getElem?_toList, hf1]
          simp only [Option.map_some, g, hf2.1, hf2.2, Program.cellsOf, hj1, hj2, Option.getD_some]
        · cases hx
      · cases hx
    obtain ⟨ds, e, k1, k2, k3, k4⟩ := afill_sound (place' := ((gs.map g)[·]?)) (fun n x hx => hp2 n x hx) (ns.zip vs) ps.toList ti.zero.cells z.cells h hc hm1 (by rw [hm2]; exact hv)
    refine SilR.of (y := .agg ds) (v := .agg e) k1 ⟨e, rfl, k2⟩ fun w => ?_
    simp only [Instr.build, Sem.run_bind, hz, run_underlying hd, hrun, Result.andThen_ok]
    simp only [k4]
    rfl
  · rename_i n e he
    rw [he] at hdd
    obtain rfl := desc_arr hdd
    obtain ⟨te, hte, h⟩ := tiK_some h
    obtain ⟨ds, e', k1, k2, k3, k4⟩ := afill_sound (place' := fun i => some (i * te.sz, te.sz)) (fun n x hx => hx) (ns.zip vs) ps.toList ti.zero.cells z.cells h hc hm1 (by rw [hm2]; exact hv)
    refine SilR.of (y := .agg ds) (v := .agg e') k1 ⟨e', rfl, k2⟩ fun w => ?_
    simp only [Instr.build, Sem.run_bind, hz, run_underlying hd, hT.sizeOf hte, Result.andThen_ok]
    simp only [k4]
    rfl
  · exact h.elim
end
end Go.AK
namespace Go.AK
open Go Go.RowKit
set_option linter.unusedSectionVars false
variable [Globs]
set_option linter.unusedVariables false
set_option linter.unusedSimpArgs false
section
variable {P : Program} {T : TT}
/-- A value is come to, in whatever world, by an operation. -/
def SilN (P : Program) (E : Env) (s : Sem Next) (K : AV → Prop) : Prop :=
  ∃ y v, VR E y v ∧ K y ∧ ∀ w, ImOK E w → s.run P w = .ok (.value v) w
theorem SilN.of {E : Env} {s : Sem Next} {K : AV → Prop} {y : AV} {v : Value} (hk : K y) (hv : VR E y v) (h : ∀ w, s.run P w = .ok (.value v) w) : SilN P E s K := ⟨y, v, hv, hk, fun w _ => h w⟩
theorem SilR.next {E : Env} {s : Sem Value} {K : AV → Prop} (h : SilR P E s K) : SilN P E (do pure (.value (← s))) K := by
  obtain ⟨y, v, h1, h2, h3⟩ := h
  exact ⟨y, v, h1, h2, fun w hw => by simp [h3 w hw]⟩
theorem vrl_one {E : Env} {x : AV} {vs : List Value} (h : VRL E [x] vs) : ∃ v, vs = [v] ∧ VR E x v := by
  obtain ⟨v, vs', h1, h2, h3⟩ := h; cases h3; exact ⟨v, h1, h2⟩
theorem vrl_two {E : Env} {x y : AV} {vs : List Value} (h : VRL E [x, y] vs) : ∃ v u, vs = [v, u] ∧ VR E x v ∧ VR E y u := by
  obtain ⟨v, vs', h1, h2, h3⟩ := h; obtain ⟨u, rfl, h4⟩ := vrl_one h3; exact ⟨v, u, h1, h2, h4⟩
theorem arr_of_toList {α : Type} {a : Array α} {l : List α} (h : a.toList = l) : a = l.toArray := by rw [← h]
theorem getD_some {α : Type} {a : Array α} {i : Nat} {d x : α} (h : a[i]? = some x) : a.getD i d = x := by simp [h]
theorem vr_sl {E : Env} {a : Option (Nat × Nat)} {z n c : Nat} {v : Value} (h : VR E (.sl a z n c) v) : ∃ q, v = .slice q n c := by
  rcases a with _ | ⟨j, o⟩
  · obtain ⟨rfl, rfl, rfl⟩ := h; exact ⟨_, rfl⟩
  · obtain ⟨g, f, q, o', _, rfl, _⟩ := h; exact ⟨_, rfl⟩
theorem atT_some {tys : Array Nat} {i : Nat} {K : Nat → Prop} (h : atT tys i K) : ∃ t, tys[i]? = some t ∧ K t := by
  unfold atT at h
  split at h
  · exact ⟨_, by assumption, h⟩
  · exact h.elim
theorem asil_sound (hT : TOK P T) {nt : Nat} {E : Env} {r : Regs} {a : Act} (hr : RR nt E r a) {o : Oper} {K : AV → Prop} (h : asil P T r o.op K) : SilN P E (execOp a.eval o) K := by
  obtain ⟨dst, op, ty, pos, aft, gd⟩ := o
  cases op <;> simp only [asil] at h
  case move x => obtain ⟨y, h1, h2⟩ := evalK_sound hr h; exact SilN.of h2 h1 fun w => rfl
  case assign x => obtain ⟨y, h1, h2⟩ := evalK_sound hr h; exact SilN.of h2 h1 fun w => rfl
  case pick c x y =>
    obtain ⟨v, h1, h2⟩ := evalK_sound hr h
    split at h2
    · rename_i t
      have h1' : a.eval c = .bool t := h1
      cases t
      · obtain ⟨z, h3, h4⟩ := evalK_sound hr (show evalK r y K from h2)
        exact SilN.of h4 h3 fun w => by simp [execOp, h1', asBool]
      · obtain ⟨z, h3, h4⟩ := evalK_sound hr (show evalK r x K from h2)
        exact SilN.of h4 h3 fun w => by simp [execOp, h1', asBool]
    · exact h2.elim
  case nilCheck x =>
    obtain ⟨v, h1, h2⟩ := evalK_sound hr h
    split at h2
    · rename_i q
      rcases q with ⟨j, o⟩
      obtain ⟨g, f, q, h3, h4⟩ := h1
      exact SilN.of h2 ⟨g, f, q, h3, rfl⟩ fun w => by simp [execOp, h4]
    · obtain ⟨g, f, c, t, fz, h3, h4, h5⟩ := h1
      exact SilN.of h2 ⟨g, f, c, t, fz, h3, rfl, h5⟩ fun w => by simp [execOp, h4]
    · obtain ⟨p, q, h4, h5⟩ := h1
      exact SilN.of h2 ⟨p, q, rfl, h5⟩ fun w => by simp [execOp, h4]
    · obtain ⟨u, h4, h5⟩ := h1
      exact SilN.of h2 ⟨u, rfl, h5⟩ fun w => by simp [execOp, h4]
    · exact h2.elim
  case build t ps =>
    obtain ⟨ti, ht, h⟩ := tiK_some h
    obtain ⟨vs, h1, h2⟩ := evalsK_sound hr h
    refine (build_sound (ps := ps.map fun p => (p.1, a.eval p.2)) hT ht ?_ ?_ h2).next
    · simp
    · simpa [Function.comp_def] using h1
  case load t x =>
    obtain ⟨v, h1, h2⟩ := evalK_sound hr h
    obtain ⟨ti, ht, h2⟩ := tiK_some h2
    split at h2
    · rename_i cs o
      obtain ⟨g, f, c, t', fz, h3, h4, h5⟩ := h1
      have hE : ∃ w : World, w.heap[g]? = some (.cells c t' fz) := ⟨{ (default : World) with heap := Array.replicate (g + 1) (.cells c t' fz) }, by simp⟩
      obtain ⟨w0, hw0⟩ := hE
      obtain ⟨y, u, h6, h7, h8⟩ := loadVar_run hT ht hw0 h5 h2
      exact ⟨y, u, h6, h7, fun w hw => by simp [execOp, h4, Instr.loadAt, Instr.sureAddr, h8 w (hw _ _ h3)]⟩
    · exact h2.elim
  case binOp op t x y ty =>
    obtain ⟨v, h1, h2⟩ := evalK_sound hr h
    obtain ⟨u, h3, h4⟩ := evalK_sound hr h2
    exact (abin_sound hT h4 h1 h3).next
  case unOp op t x =>
    obtain ⟨v, h1, h2⟩ := evalK_sound hr h
    split at h2
    · have h1' : a.eval x = .bool _ := h1
      exact SilN.of h2 rfl fun w => by simp [execOp, h1', Op.unary]
    · have h1' : a.eval x = .int _ _ := h1
      exact SilN.of h2 rfl fun w => by simp [execOp, h1', Op.unary, Op.intArith]
    · exact h2.elim
  case convert s d x =>
    obtain ⟨v, h1, h2⟩ := evalK_sound hr h
    obtain ⟨ts, hts, h2⟩ := tiK_some h2
    obtain ⟨td, htd, h2⟩ := tiK_some h2
    obtain ⟨us, hus, _⟩ := hT.desc hts
    obtain ⟨ud, hud, hdd⟩ := hT.desc htd
    generalize td.d = D at h2 hdd
    split at h2
    · obtain rfl := desc_int hdd
      have h1' : a.eval x = .int _ _ := h1
      exact SilN.of h2 rfl fun w => by simp [execOp, h1', convert, run_underlying hus, run_underlying hud, Conv.intToInt]
    · obtain rfl := desc_str hdd
      have h1' : a.eval x = .string _ := h1
      refine SilN.of h2 rfl fun w => ?_
      simp only [execOp, h1', convert, Sem.run_bind, run_underlying hus, run_underlying hud, Result.andThen_ok]
      cases us <;> rfl
    · exact h2.elim
  case makeFunc f fs cap =>
    obtain ⟨vs, h1, h2⟩ := evalsK_sound hr h
    obtain ⟨us, h3, h4⟩ := evalsK_sound hr h2
    exact SilN.of h4 (v := .func f (fs.map a.eval) (cap.map a.eval)) ⟨_, _, rfl, by simpa using h1, by simpa using h3⟩ fun w => by simp [execOp, Instr.makeFunc]
  case slice t x lo hi mx =>
    obtain ⟨ti, ht, h⟩ := tiK_some h
    obtain ⟨v, h1, h⟩ := evalK_sound hr h
    obtain ⟨l, h, hl⟩ := aopt_sound hr h
    obtain ⟨u, h, hu⟩ := aopt_sound hr h
    split at h
    · split at h
      · rename_i n e he
        obtain ⟨te, hte, h⟩ := tiK_some h
        refine (aslice_sound hT ht ?_ h h1 hl hu).next
        intro e' h0 w
        rw [he] at h0
        rcases h0 with h0 | ⟨_, h0⟩
        · cases h0
        · cases h0; exact hT.sizeOf hte w
      · rename_i e he
        obtain ⟨te, hte, h⟩ := tiK_some h
        refine (aslice_sound hT ht ?_ h h1 hl hu).next
        intro e' h0 w
        rw [he] at h0
        rcases h0 with h0 | ⟨_, h0⟩
        · cases h0; exact hT.sizeOf hte w
        · cases h0
      · rename_i hn1 hn2
        refine (aslice_sound hT ht ?_ h h1 hl hu).next
        intro e' h0 w
        rcases h0 with h0 | ⟨n, h0⟩
        · exact absurd h0 (hn2 e')
        · exact absurd h0 (hn1 n e')
    · obtain ⟨m, h2, h⟩ := evalK_sound hr h
      split at h
      · rename_i e j o z n c k1 l1 k2 r1 k3 m1 he h_a h_b h_c
        obtain ⟨te, hte, h⟩ := tiK_some h
        obtain ⟨hb, h⟩ := acond_true h
        obtain ⟨⟨p1, p2, p3, p4⟩, h⟩ := h
        obtain rfl := Nat.eq_of_beq_eq_true hb
        obtain ⟨d, hd, hdd⟩ := hT.desc ht
        rw [he] at hdd
        obtain rfl := desc_sl hdd
        obtain ⟨lv, hlv, hl⟩ := hl.some'
        obtain ⟨uv, huv, hu⟩ := hu.some'
        cases hl; cases hu
        have h2' : a.eval _ = .int _ _ := h2
        obtain ⟨g, f, q, o', h5, h6, h7, h8⟩ := h1
        have hs := hT.sizeOf hte
        refine SilN.of h (v := .slice (if m1.toNat = l1.toNat then some ⟨g, o', none⟩ else some ⟨g, o' + l1.toNat * te.sz, none⟩) (r1.toNat - l1.toNat) (m1.toNat - l1.toNat)) ?_ fun w => ?_
        · by_cases e1 : m1.toNat = l1.toNat
          · rw [if_pos e1]; exact ⟨g, f, q, o', h5, rfl, by omega, .inr (by omega)⟩
          · rw [if_neg e1]
            refine ⟨g, f, q, _, h5, rfl, by omega, ?_⟩
            rcases h8 with ⟨rfl, h8⟩ | h8
            · refine .inl ⟨by omega, ?_⟩
              have : l1.toNat * te.sz + (m1.toNat - l1.toNat) * te.sz = m1.toNat * te.sz := by rw [← Nat.add_mul]; congr 1; omega
              have : m1.toNat * te.sz ≤ c * te.sz := Nat.mul_le_mul_right _ (by omega)
              omega
            · omega
        · have q1 : (0 : Int) ≤ m1 := by omega
          have q2 : (0 : Int) ≤ r1 := by omega
          have q3 : max m1 0 = m1 := by omega
          have q4 : max r1 0 = r1 := by omega
          simp only [execOp, Instr.sliceAt, Instr.slice, Sem.run_bind, run_underlying hd, Result.andThen_ok, h6, hs, Option.map_some, hlv, huv, h2', Instr.sliceBounds, Instr.sliceBound, asIntOf]
          by_cases e1 : m1.toNat = l1.toNat
          · have e2 : m1 = l1 := by omega
            subst e2
            simp [p1, p2, p3, p4, q1, q2, q3, q4]
          · simp [e1, p1, p2, p3, p4, q1, q2, q3, q4, add_zero_addr]
      · exact h.elim
  case fieldAddr s x f =>
    obtain ⟨v, h1, h⟩ := evalK_sound hr h
    obtain ⟨ti, ht, h⟩ := tiK_some h
    obtain ⟨u, hu, hd⟩ := hT.desc ht
    split at h
    · rename_i fs e
      rw [e] at hd
      obtain ⟨gs, rfl, hfs⟩ := desc_st hd
      split at h
      · rename_i off ft hf
        obtain ⟨tf, htf, h⟩ := tiK_some h
        obtain ⟨hz, h⟩ := acond_false h
        have hsz : tf.sz ≠ 0 := fun e => by rw [e] at hz; exact absurd hz (by decide)
        rw [hfs, List.getElem?_map] at hf
        obtain ⟨fd, hf1, hf2⟩ := Option.map_eq_some_iff.mp hf
        simp only [Prod.mk.injEq] at hf2
        have hf3 : gs[f]? = some fd := by simpa using hf1
        have hs : ∀ w, (Go.sizeOf fd.type).run P w = .ok tf.sz w := fun w => by rw [hf2.2]; exact hT.sizeOf htf w
        split at h
        · obtain ⟨g, f', q, h3, h4⟩ := h1
          refine SilN.of h (v := .pointer (some ⟨g, f' + _ + off, none⟩)) ⟨g, f', q, h3, by rw [Nat.add_assoc]⟩ fun w => ?_
          simp [execOp, h4, Instr.fieldAt, Instr.sureAddr, run_underlying hu, hf3, fieldPlace, hs, hsz, hf2.1, add_zero_addr]
        · obtain ⟨g, f', c, t', fz, h3, h4, h5⟩ := h1
          refine SilN.of h (v := .pointer (some ⟨g, f' + _ + off, none⟩)) ⟨g, f', c, t', fz, h3, by rw [Nat.add_assoc], h5⟩ fun w => ?_
          simp [execOp, h4, Instr.fieldAt, Instr.sureAddr, run_underlying hu, hf3, fieldPlace, hs, hsz, hf2.1, add_zero_addr]
        · exact h.elim
      · exact h.elim
    · exact h.elim
  case field s x f =>
    obtain ⟨v, h1, h⟩ := evalK_sound hr h
    obtain ⟨ti, ht, h⟩ := tiK_some h
    obtain ⟨u, hu, hd⟩ := hT.desc ht
    split at h
    · rename_i fs e
      rw [e] at hd
      obtain ⟨gs, rfl, hfs⟩ := desc_st hd
      split at h
      · rename_i off ft hf
        obtain ⟨tf, htf, h⟩ := tiK_some h
        rw [hfs, List.getElem?_map] at hf
        obtain ⟨fd, hf1, hf2⟩ := Option.map_eq_some_iff.mp hf
        simp only [Prod.mk.injEq] at hf2
        have hf3 : gs[f]? = some fd := by simpa using hf1
        split at h
        · rename_i cs
          obtain ⟨as, h3, h4⟩ := h1
          obtain ⟨y, v, h5, h6, h7⟩ := part_run hT htf h4 h
          refine ⟨y, v, h5, h6, fun w hw => ?_⟩
          have h8 := h7 w hw
          simp only [execOp, h3, Instr.field, Sem.run_bind, run_underlying hu, Result.andThen_ok, hf3, asAgg, hf2.1, hf2.2, Sem.run_pure, h8]
        · exact h.elim
      · exact h.elim
    · exact h.elim
  case indexAddr t x y =>
    obtain ⟨ti, ht, h⟩ := tiK_some h
    obtain ⟨v, h1, h⟩ := evalK_sound hr h
    obtain ⟨u, h2, h⟩ := evalK_sound hr h
    split at h
    · rename_i k n
      obtain ⟨te, hte, h⟩ := tiK_some h
      have h2' : a.eval y = .int k n := h2
      have := (aindex_sound hT ht hte (k := k) h h1).next
      simpa only [execOp, h2'] using this
    · exact h.elim
  case index t x y =>
    obtain ⟨ti, ht, h3⟩ := tiK_some h
    clear h
    obtain ⟨v, h1, h4⟩ := evalK_sound hr h3
    clear h3
    obtain ⟨u, h2, h⟩ := evalK_sound hr h4
    clear h4
    obtain ⟨d, hd, hdd⟩ := hT.desc ht
    split at h
    · rename_i k n
      have h2' : a.eval y = .int k n := h2
      generalize ti.d = D at h hdd
      split at h
      · rename_i s
        obtain rfl := desc_str hdd
        have h1' : a.eval x = .string s := h1
        obtain ⟨⟨p1, p2⟩, h⟩ := h
        have hlt : n.toNat < s.size := by omega
        have hg : s[n.toNat]? = some s[n.toNat] := by simp [hlt]
        refine SilN.of h (v := .int .u8 ((s[n.toNat]).toNat : Int)) ?_ fun w => ?_
        · show Value.int _ _ = _
          congr 2
          have : s.data.toList.getD n.toNat 0 = s[n.toNat] := by
            rw [List.getD_eq_getElem?_getD]
            have : s.data.toList[n.toNat]? = some s[n.toNat] := by
              rw [Array.getElem?_toList]
              exact Array.getElem?_eq_getElem hlt
            rw [this]; rfl
          rw [this]
        · simp [execOp, h1', h2', Instr.index, asIntOf, run_underlying hd, p1, hg]
      · rename_i m e cs
        obtain rfl := desc_arr hdd
        obtain ⟨te, hte, h⟩ := tiK_some h
        obtain ⟨hb, h⟩ := h
        obtain ⟨as, h3, h4⟩ := h1
        obtain ⟨z, v, h5, h6, h7⟩ := part_run hT hte h4 h
        refine ⟨z, v, h5, h6, fun w hw => ?_⟩
        have h8 := h7 w hw
        simp only [execOp, h3, h2', Instr.index, asIntOf, Sem.run_bind, Sem.run_pure, run_underlying hd, Result.andThen_ok, hb, and_self, if_true, hT.sizeOf hte, h8]
      · exact h.elim
    · exact h.elim
  case extract x n =>
    obtain ⟨v, h1, h⟩ := evalK_sound hr h
    split at h
    · rename_i vs
      obtain ⟨as, h3, h4⟩ := h1
      obtain ⟨y, h5, h6⟩ := aget_some h
      obtain ⟨u, h7, h8⟩ := h4.get h5
      have h9 : as[n]? = some u := by simpa using h7
      exact SilN.of h6 h8 fun w => by simp [execOp, h3, Instr.extract, h9]
    · exact h.elim
  case makeInterface t x =>
    obtain ⟨ti, ht, h⟩ := tiK_some h
    obtain ⟨d, hd, hdd⟩ := hT.desc ht
    split at h
    · exact h.elim
    · rename_i hne
      obtain ⟨v, h1, h⟩ := evalK_sound hr h
      refine SilN.of h ⟨_, rfl, h1⟩ fun w => ?_
      simp only [execOp, Instr.makeInterface, Sem.run_bind, run_underlying hd, Result.andThen_ok]
      cases d <;> first | rfl | (generalize ti.d = D at hdd hne; cases D <;> first | exact absurd rfl hne | cases hdd)
  case typeAssert x xt t ok =>
    obtain ⟨v, h1, h⟩ := evalK_sound hr h
    obtain ⟨ti, ht, h⟩ := tiK_some h
    obtain ⟨d, hd, hdd⟩ := hT.desc ht
    split at h
    · exact h.elim
    · rename_i u y hne _
      obtain ⟨x', h3, h4⟩ := h1
      have hnd : ∀ ms, d ≠ .interface ms := by
        rintro ms rfl
        exact hne (by generalize ti.d = D at hdd; cases D <;> first | rfl | cases hdd)
      have hrun : ∀ w, (Instr.typeAssert (.iface u x') xt t ok).run P w = (if u = t then (pure (if ok then .tuple #[x', .bool true] else x') : Sem Value) else (if ok then do pure (.tuple #[← zeroValue t, .bool false]) else runtimePanic (.typeAssertion (some xt) (some u) t ""))).run P w := fun w => by
        unfold Instr.typeAssert
        simp only [Sem.run_bind, run_underlying hd, Result.andThen_ok]
      by_cases e : u = t
      · subst e
        rw [show Nat.beq u u = true from Nat.beq_refl u] at h
        rw [acond] at h
        cases ok
        · exact SilN.of h h4 fun w => by simp [execOp, h3, hrun]
        · exact SilN.of h (⟨_, rfl, ⟨_, _, rfl, h4, ⟨_, _, rfl, rfl, rfl⟩⟩⟩) fun w => by simp [execOp, h3, hrun]
      · rw [show Nat.beq u t = false from by rw [Bool.eq_false_iff]; exact fun hb => e (Nat.eq_of_beq_eq_true hb)] at h
        rw [acond] at h
        cases ok
        · exact h.elim
        · obtain ⟨i, z, i1, i2, i3, i4, i5, i6⟩ := hT.info ht
          exact SilN.of h (⟨_, rfl, ⟨_, _, rfl, i5 E, ⟨_, _, rfl, rfl, rfl⟩⟩⟩) fun w => by simp [execOp, h3, hrun, e, Go.zeroValue, typeInfo, i1, i4]
    · exact h.elim
  case call c =>
    obtain ⟨callee, args, tys⟩ := c
    simp only at h
    split at h
    · rename_i bb hbb
      obtain ⟨vs, h1, h⟩ := evalsK_sound hr h
      have h1 : VRL E vs (args.map a.eval).toList := by simpa using h1
      split at h
      · obtain ⟨t0, htys, h⟩ := atT_some h
        obtain ⟨ti, ht, h⟩ := tiK_some h
        obtain ⟨d, hd, hdd⟩ := hT.desc ht
        generalize ti.d = D at h hdd
        split at h
        · obtain rfl := desc_sl hdd
          obtain ⟨v, hv, h2⟩ := vrl_one h1
          obtain ⟨q, rfl⟩ := vr_sl h2
          exact SilN.of h rfl fun w => by simp [execOp, resolve, invoke, builtin, Builtin.len_, arr_of_toList hv, htys, run_underlying hd, goInt]
        · obtain rfl := desc_sl hdd
          obtain ⟨v, hv, h2⟩ := vrl_one h1
          rcases h2 with ⟨rfl, a, c, rfl⟩ | ⟨g, f, c, t', fz, cap, h5, rfl, h6, h7⟩
          · exact SilN.of h rfl fun w => by simp [execOp, resolve, invoke, builtin, Builtin.len_, arr_of_toList hv, htys, run_underlying hd, goInt]
          · exact SilN.of h rfl fun w => by simp [execOp, resolve, invoke, builtin, Builtin.len_, arr_of_toList hv, htys, run_underlying hd, goInt]
        · obtain rfl := desc_str hdd
          obtain ⟨v, hv, h2⟩ := vrl_one h1
          cases h2
          exact SilN.of h rfl fun w => by simp [execOp, resolve, invoke, builtin, Builtin.len_, arr_of_toList hv, htys, run_underlying hd, goInt]
        · obtain rfl := desc_arr hdd
          obtain ⟨v, hv, h2⟩ := vrl_one h1
          exact SilN.of h rfl fun w => by simp [execOp, resolve, invoke, builtin, Builtin.len_, arr_of_toList hv, htys, run_underlying hd, goInt]
        · exact h.elim
      · obtain ⟨t0, htys, h⟩ := atT_some h
        obtain ⟨ti, ht, h⟩ := tiK_some h
        obtain ⟨d, hd, hdd⟩ := hT.desc ht
        generalize ti.d = D at h hdd
        split at h
        · obtain rfl := desc_sl hdd
          obtain ⟨v, hv, h2⟩ := vrl_one h1
          obtain ⟨q, rfl⟩ := vr_sl h2
          exact SilN.of h rfl fun w => by simp [execOp, resolve, invoke, builtin, Builtin.cap_, arr_of_toList hv, htys, run_underlying hd, goInt]
        · exact h.elim
      · split at h
        · obtain ⟨v, u, hv, h2, h3⟩ := vrl_two h1
          cases h2; cases h3
          exact SilN.of h rfl fun w => by simp [execOp, resolve, invoke, builtin, Builtin.max_, Builtin.max2, arr_of_toList hv]
        · exact h.elim
      · split at h
        · obtain ⟨v, u, hv, h2, h3⟩ := vrl_two h1
          cases h2; cases h3
          exact SilN.of h rfl fun w => by simp [execOp, resolve, invoke, builtin, Builtin.min_, Builtin.min2, arr_of_toList hv]
        · exact h.elim
      · exact h.elim
    · exact h.elim
  all_goals exact h.elim
end
end Go.AK
namespace Go.AK
open Go Go.RowKit
set_option linter.unusedSectionVars false
variable [Globs]
set_option linter.unusedVariables false
set_option linter.unusedSimpArgs false
section
variable {P : Program} {T : TT}
theorem Rel.heap {E : Env} {H : Heap} {w w' : World} (h : Rel E H w) (e : w'.heap = w.heap) : Rel E H w' :=
  ⟨h.len, fun j cs hj => by rw [e]; exact h.blk j cs hj, fun j es hj => by rw [e]; exact h.mp j es hj, h.inj, fun j x hx => by rw [e]; exact h.lt j x hx, fun g o hg => by rw [e]; exact h.im g o hg, h.imd, h.gl⟩
theorem Ext.drew (E : Env) (w : World) : Ext E w E w.drew :=
  ⟨.refl E, fun j x h hx => by have := (List.getElem?_eq_some_iff.mp hx).1; omega, fun _ _ h => .inl h, rfl, rfl, rfl, Nat.le_refl _, fun _ _ _ => rfl⟩
/-- A block is given up, and stands anew under another number, elsewhere in the same row of cells. -/
theorem Rel.move {E : Env} {H : Heap} {w : World} (h : Rel E H w) {j g f f' : Nat} {cs cs' : List AV} {c c' : Array Value} {t : TypeId} (hj : H[j]? = some (.c cs)) (hρ : E.ρ[j]? = some (g, f, c.size))
    (hg : w.heap[g]? = some (.cells c t (0, 0))) (hs : c'.size = c.size) (hv : VRP E cs' (c'.toList.drop f')) :
    Rel (E.push (g, f', c.size)) (H.set j .dead ++ [.c cs']) (w.setRow g c') ∧ Ext E w (E.push (g, f', c.size)) (w.setRow g c') := by
  have hle := E.le_push (g, f', c.size)
  have hjl : j < H.length := (List.getElem?_eq_some_iff.mp hj).1
  have hfar : ∀ k, k ≠ g → (w.setRow g c').heap[k]? = w.heap[k]? := fun k hk => setRow_other w g k c' hk
  have hhere : (w.setRow g c').heap[g]? = some (.cells c' t (0, 0)) := setRow_heap w g c c' t (0, 0) hg
  have hsz : (w.setRow g c').heap.size = w.heap.size := setRow_size w g c'
  have haj : alive H j := ⟨_, hj, by simp⟩
  have hll : (H.set j Blk.dead).length = H.length := by simp
  have hget : ∀ k (b : Blk), (H.set j .dead ++ [Blk.c cs'])[k]? = some b → b ≠ .dead → (H[k]? = some b ∧ k < H.length ∧ k ≠ j) ∨ (k = H.length ∧ b = .c cs') := by
    intro k b hb hd
    rcases Nat.lt_trichotomy k H.length with h1 | h1 | h1
    · rw [List.getElem?_append_left (by omega)] at hb
      by_cases e : j = k
      · subst e; rw [List.getElem?_set_self h1] at hb; cases hb; exact absurd rfl hd
      · rw [List.getElem?_set_ne e] at hb; exact .inl ⟨hb, h1, fun e' => e e'.symm⟩
    · subst h1; rw [List.getElem?_append_right (by omega)] at hb; simp at hb; exact .inr ⟨rfl, hb.symm⟩
    · rw [List.getElem?_eq_none (by simp; omega)] at hb; cases hb
  have hρ' : ∀ k (x : Nat × Nat × Nat), (E.push (g, f', c.size)).ρ[k]? = some x → (E.ρ[k]? = some x ∧ k < H.length) ∨ (k = H.length ∧ x = (g, f', c.size)) := by
    intro k x hx
    simp only [Env.push] at hx
    rcases Nat.lt_trichotomy k E.ρ.length with h1 | h1 | h1
    · rw [List.getElem?_append_left h1] at hx; exact .inl ⟨hx, h.len ▸ h1⟩
    · subst h1; rw [List.getElem?_append_right (Nat.le_refl _)] at hx; simp at hx; exact .inr ⟨h.len, hx.symm⟩
    · rw [List.getElem?_eq_none (by simp; omega)] at hx; cases hx
  have hlast : (E.push (g, f', c.size)).ρ[H.length]? = some (g, f', c.size) := by
    simp only [Env.push]; rw [← h.len, List.getElem?_append_right (Nat.le_refl _)]; simp
  have hal : ∀ k, alive (H.set j .dead ++ [.c cs']) k → (alive H k ∧ k < H.length ∧ k ≠ j) ∨ k = H.length := by
    rintro k ⟨b, hb, hd⟩
    rcases hget k b hb hd with ⟨h1, h2, h3⟩ | ⟨h1, _⟩
    · exact .inl ⟨⟨b, h1, hd⟩, h2, h3⟩
    · exact .inr h1
  refine ⟨⟨by simp [Env.push, h.len], ?_, ?_, ?_, ?_, ?_, ?_, h.gl⟩, ⟨hle, ?_, fun _ _ h => .inl h, rfl, rfl, rfl, by omega, ?_⟩⟩
  · intro k ds hk
    rcases hget k _ hk (by simp) with ⟨h1, h2, h3⟩ | ⟨h1, h2⟩
    · obtain ⟨g', f1, c1, t', e1, e2, e3⟩ := h.blk k ds h1
      have hne : g' ≠ g := fun eg => h3 (h.inj j k _ _ haj ⟨_, h1, by simp⟩ hρ e1 eg.symm).symm
      exact ⟨g', f1, c1, t', hle.pre _ _ e1, (hfar _ hne).trans e2, e3.mono hle⟩
    · cases h2; subst h1
      exact ⟨g, f', c', t, by rw [hs]; exact hlast, hhere, hv.mono hle⟩
  · intro k es hk
    rcases hget k _ hk (by simp) with ⟨h1, h2, h3⟩ | ⟨h1, h2⟩
    · obtain ⟨g', f1, q, es', kk, e1, e2, e3⟩ := h.mp k es h1
      have hne : g' ≠ g := fun eg => h3 (h.inj j k _ _ haj ⟨_, h1, by simp⟩ hρ e1 eg.symm).symm
      exact ⟨g', f1, q, es', kk, hle.pre _ _ e1, (hfar _ hne).trans e2, e3.mono hle⟩
    · cases h2
  · intro a b x x' ha hb hx hx' e
    rcases hal a ha with ⟨a1, a2, a3⟩ | rfl <;> rcases hal b hb with ⟨b1, b2, b3⟩ | rfl
    · rcases hρ' _ x hx with ⟨h1, _⟩ | ⟨h1, rfl⟩
      · rcases hρ' _ x' hx' with ⟨h2, _⟩ | ⟨h2, rfl⟩
        · exact h.inj a b x x' a1 b1 h1 h2 e
        · omega
      · omega
    · rcases hρ' _ x hx with ⟨h1, _⟩ | ⟨h1, rfl⟩
      · rcases hρ' _ x' hx' with ⟨h2, _⟩ | ⟨h2, rfl⟩
        · omega
        · exact absurd (h.inj j a _ _ haj a1 hρ h1 e.symm).symm a3
      · omega
    · rcases hρ' _ x hx with ⟨h1, _⟩ | ⟨h1, rfl⟩
      · omega
      · rcases hρ' _ x' hx' with ⟨h2, _⟩ | ⟨h2, rfl⟩
        · exact absurd (h.inj j b _ _ haj b1 hρ h2 e).symm b3
        · omega
    · rfl
  · intro k x hx
    rw [hsz]
    rcases hρ' _ x hx with ⟨h1, _⟩ | ⟨h1, rfl⟩
    · exact h.lt _ _ h1
    · exact (h.lt _ _ hρ : g < w.heap.size)
  · intro g' o ho
    have ho' : E.Im g' = some o := ho
    have hne : g' ≠ g := fun eg => by
      have := h.imd j _ haj hρ
      simp only at this
      rw [← eg, ho'] at this; cases this
    exact (hfar _ hne).trans (h.im g' o ho')
  · intro k x ha hx
    show E.Im x.1 = none
    rcases hρ' _ x hx with ⟨h1, h2⟩ | ⟨h1, rfl⟩
    · rcases hal k ha with ⟨a1, _, _⟩ | rfl
      · exact h.imd k x a1 h1
      · omega
    · exact (h.imd j _ haj hρ : E.Im g = none)
  · intro k x hk hx
    rcases hρ' _ x hx with ⟨h1, h2⟩ | ⟨h1, rfl⟩
    · have := h.len; omega
    · exact .inr ⟨j, _, hρ, rfl⟩
  · intro g' _ hn
    exact hfar g' fun e => hn j _ hρ e.symm
/-- A slice's cells are read. -/
theorem arow_sound {E : Env} {H : Heap} {w : World} (hR : Rel E H w) {z : Nat} {v : AV} {a : Value} (hv : VR E v a) {K : List AV → Nat → Prop} (h : arow H z v K) :
    ∃ cells n vs, K cells n ∧ VRL E cells vs ∧ vs.length = n * z ∧ (∃ q c, a = .slice q n c) ∧ ∀ w' : World, w'.heap = w.heap → ∀ m, m ≤ n → (Builtin.firstCells z m a).run P w' = .ok (vs.take (m * z)).toArray w' := by
  have read : ∀ {g o' n m c : Nat} {b : Array Value} {t : TypeId} {fz : Nat × Nat} {w' : World}, w'.heap[g]? = some (.cells b t fz) → m ≤ n → o' + n * z ≤ b.size →
      (Builtin.firstCells z m (.slice (some ⟨g, o', none⟩) n c)).run P w' = .ok (((b.toList.drop o').take (n * z)).take (m * z)).toArray w' := by
    intro g o' n m c b t fz w' hg hm hl
    have hmz : m * z ≤ n * z := Nat.mul_le_mul_right z hm
    rw [List.take_take, Nat.min_eq_left hmz]
    refine run_firstCells_some w' z m ⟨g, o', none⟩ n c _ (by simp; omega) fun j u hj => ?_
    rw [add_zero_addr, cell_of hg]
    rw [List.getElem?_take] at hj
    split at hj
    · rw [List.getElem?_drop] at hj; rw [← Array.getElem?_toList]; exact hj
    · cases hj
  unfold arow at h
  split at h
  · obtain ⟨rfl, rfl, rfl⟩ := hv
    refine ⟨[], 0, [], h, rfl, by simp, ⟨_, _, rfl⟩, fun w' _ m hm => ?_⟩
    have : m = 0 := by omega
    subst this
    simp [Builtin.firstCells]
  · rename_i j o z' n c
    replace h := acond_true h
    obtain ⟨hz, h⟩ := h
    obtain rfl := Nat.eq_of_beq_eq_true hz
    obtain ⟨cs, hj, hl, h⟩ := ablk_some h
    obtain ⟨g, f, q, o', hρ, rfl, hnc, hfit⟩ := hv
    obtain ⟨g', f', b, t, e1, e2, e3⟩ := hR.blk j cs hj
    rw [hρ] at e1
    simp only [Option.some.injEq, Prod.mk.injEq] at e1
    obtain ⟨rfl, rfl, rfl⟩ := e1
    have hbl := e3.length
    simp only [List.length_drop, Array.length_toList] at hbl
    rcases hfit with ⟨rfl, hfit⟩ | rfl
    · have hseg := (e3.drop o).take (n * z') (by simp; omega)
      refine ⟨_, n, ((b.toList.drop f).drop o).take (n * z'), h, hseg, ?_, ⟨_, _, rfl⟩, fun w' hw m hm => ?_⟩
      · rw [hseg.length]; simp; omega
      · have : f + o + n * z' ≤ b.size ∨ n * z' = 0 := by omega
        rcases this with h1 | h1
        · rw [read (hw ▸ e2) hm h1, List.drop_drop]
        · have h2 : m * z' = 0 := by
            have := Nat.mul_le_mul_right z' hm
            omega
          rw [h1, h2]
          simp [Builtin.firstCells, h2, loadCells, loadCellsFrom]
    · have hn0 : n = 0 := by omega
      subst hn0
      refine ⟨_, 0, [], h, by simp [VRL], by simp, ⟨_, _, rfl⟩, fun w' hw m hm => ?_⟩
      have : m = 0 := by omega
      subst this
      simp [Builtin.firstCells, loadCells, loadCellsFrom]
  · rename_i cs o z' n
    replace h := acond_true h
    obtain ⟨hz, hl, h⟩ := h
    obtain rfl := Nat.eq_of_beq_eq_true hz
    rcases hv with ⟨rfl, a, c, rfl⟩ | ⟨g, f, b, t, fz, cap, hI, rfl, hnc, e3⟩
    · refine ⟨_, 0, [], h, by simp [VRL], by simp, ⟨_, _, rfl⟩, fun w' hw m hm => ?_⟩
      have : m = 0 := by omega
      subst this
      cases a <;> simp [Builtin.firstCells, loadCells, loadCellsFrom]
    · have hbl := e3.length
      simp only [List.length_drop, Array.length_toList] at hbl
      have hseg := (e3.drop o).take (n * z') (by simp; omega)
      refine ⟨_, n, ((b.toList.drop f).drop o).take (n * z'), h, hseg, ?_, ⟨_, _, rfl⟩, fun w' hw m hm => ?_⟩
      · rw [hseg.length]; simp; omega
      · have : f + o + n * z' ≤ b.size ∨ n * z' = 0 := by omega
        rcases this with h1 | h1
        · rw [read (hw ▸ hR.im _ _ hI) hm h1, List.drop_drop]
        · have h2 : m * z' = 0 := by
            have := Nat.mul_le_mul_right z' hm
            omega
          rw [h1, h2]
          simp [Builtin.firstCells, h2, loadCells, loadCellsFrom]
  · exact h.elim
theorem run_append_B {w : World} {t t1 ty e : TypeId} {i : TypeInfo} {z : Value} {d1 : TypeDesc} (ht : P.underlying t = some (.slice e)) (ht1 : P.underlying t1 = some d1) (hd1 : ∀ k, d1 ≠ .int k) (hi : P.info? e = some i) (hz : i.zero = some z)
    {q : Option Addr} {n c m : Nat} {q' : Option Addr} {c' : Nat} {olds news : List Value}
    (ho : ∀ w' : World, w'.heap = w.heap → (Builtin.firstCells i.size n (.slice q n c)).run P w' = .ok olds.toArray w')
    (hn : ∀ w' : World, w'.heap = w.heap → (Builtin.firstCells i.size m (.slice q' m c')).run P w' = .ok news.toArray w')
    (hg : c < n + m) (h63 : ((n + m : Nat) : Int) ≤ 9223372036854775807) (hfit : Builtin.nextslicecap (n + m) c * i.bytes ≤ 281474976710656) :
    (Builtin.append_ #[t, t1] ty #[.slice q n c, .slice q' m c']).run P w =
      .ok (.slice (some ⟨w.heap.size, 0, none⟩) (n + m) (grownCap w (n + m) c e))
        (w.drew.alloc (.cells (olds.toArray ++ news.toArray ++ Builtin.zeroCells z.cells (grownCap w (n + m) c e - (n + m))) e)) := by
  have h1 : ¬ (n + m ≤ c) := by omega
  have h63' : ¬ (9223372036854775807 < ((n : Int) + (m : Int))) := by omega
  have h48' : ¬ (281474976710656 < Builtin.nextslicecap (n + m) c * i.bytes) := by omega
  have hf := hn w.drew rfl
  have hfo := ho w.drew rfl
  have hm : (match d1 with | .int _ => true | _ => false) = false := by cases d1 <;> first | rfl | exact absurd rfl (hd1 _)
  simp [Builtin.append_, run_underlying ht, run_underlying ht1, sizeOf, typeInfo, zeroValue, hi, hz, Builtin.lenOf, h1, h63', h48', Question.forced, hf, hfo, newRow, grownCap, hm]
  congr 2
  apply Array.ext'
  simp
theorem run_append_A {w w' : World} {t t1 ty e : TypeId} {i : TypeInfo} {d1 : TypeDesc} (ht : P.underlying t = some (.slice e)) (ht1 : P.underlying t1 = some d1) (hd1 : ∀ k, d1 ≠ .int k) (hi : P.info? e = some i)
    {q : Option Addr} {n c m : Nat} {q' : Option Addr} {c' : Nat} {news : List Value}
    (hn : (Builtin.firstCells i.size m (.slice q' m c')).run P w = .ok news.toArray w)
    (hg : n + m ≤ c) (hst : ∀ b, q = some b → (storeCells (b.add (n * i.size)) news).run P w = .ok () w') (hq : q = none → w' = w) :
    (Builtin.append_ #[t, t1] ty #[.slice q n c, .slice q' m c']).run P w = .ok (.slice q (n + m) c) w' := by
  have hm : (match d1 with | .int _ => true | _ => false) = false := by cases d1 <;> first | rfl | exact absurd rfl (hd1 _)
  cases q with
  | none =>
    have := hq rfl
    subst this
    simp [Builtin.append_, run_underlying ht, run_underlying ht1, sizeOf, typeInfo, hi, Builtin.lenOf, hg, hn, hm]
  | some b =>
    have := hst b rfl
    simp [Builtin.append_, run_underlying ht, run_underlying ht1, sizeOf, typeInfo, hi, Builtin.lenOf, hg, hn, hm, this]
theorem run_append_Z {w : World} {t t1 ty e : TypeId} {i : TypeInfo} {z : Value} {k1 kk : IntKind} (ht : P.underlying t = some (.slice e)) (ht1 : P.underlying t1 = some (.int k1)) (hi : P.info? e = some i) (hz : i.zero = some z) (hzs : z.cells.size = i.size)
    {q : Option Addr} {n c : Nat} {k : Int} {olds : List Value} (hk : 0 ≤ k)
    (ho : ∀ w' : World, w'.heap = w.heap → (Builtin.firstCells i.size n (.slice q n c)).run P w' = .ok olds.toArray w')
    (hg : c < n + k.toNat) (h63 : ((n + k.toNat : Nat) : Int) ≤ 9223372036854775807) (hby : (n + k.toNat) * i.bytes ≤ 281474976710656) (hfit : Builtin.nextslicecap (n + k.toNat) c * i.bytes ≤ 281474976710656) :
    (Builtin.append_ #[t, t1] ty #[.slice q n c, .int kk k]).run P w =
      .ok (.slice (some ⟨w.heap.size, 0, none⟩) (n + k.toNat) (grownCap w (n + k.toNat) c e))
        (w.drew.alloc (.cells (olds.toArray ++ Builtin.zeroCells z.cells k.toNat ++ Builtin.zeroCells z.cells (grownCap w (n + k.toNat) c e - (n + k.toNat))) e)) := by
  have h1 : ¬ (n + k.toNat ≤ c) := by omega
  have h63' : ¬ (IntKind.i64.max < ((n : Int) + (k.toNat : Int))) := by
    have : IntKind.i64.max = 9223372036854775807 := by decide
    omega
  have h48' : ¬ (281474976710656 < Builtin.nextslicecap (n + k.toNat) c * i.bytes) := by omega
  have hw : IntKind.i64.wrap k = k := by rw [IntKind.wrap_i64]; omega
  have hneg : ¬ k < 0 := by omega
  have hkb : ¬ (281474976710656 < k * (i.bytes : Int)) := by
    have h2 : k.toNat * i.bytes ≤ (n + k.toNat) * i.bytes := Nat.mul_le_mul_right _ (by omega)
    have h3 : ((k.toNat * i.bytes : Nat) : Int) = k * (i.bytes : Int) := by rw [Int.natCast_mul, Int.toNat_of_nonneg hk]
    omega
  have hfo := ho w.drew rfl
  have happ : ∀ w' : World, (if k.toNat * i.size = 0 then (pure #[] : Sem (Array Value)) else do pure (Builtin.zeroCells (← Go.zeroValue e).cells k.toNat)).run P w' = .ok (Builtin.zeroCells z.cells k.toNat) w' := by
    intro w'
    by_cases h0 : k.toNat * i.size = 0
    · rw [if_pos h0]
      have : Builtin.zeroCells z.cells k.toNat = #[] := by
        apply Array.eq_empty_of_size_eq_zero
        rw [size_zeroCells, hzs]; exact h0
      rw [this]; rfl
    · rw [if_neg h0]
      simp [Go.zeroValue, typeInfo, hi, hz]
  have hzv : ∀ w', (Go.zeroValue e).run P w' = .ok z w' := fun w' => by simp [Go.zeroValue, typeInfo, hi, hz]
  have hsz : ∀ w', (Go.sizeOf e).run P w' = .ok i.size w' := fun w' => by simp [Go.sizeOf, typeInfo, hi]
  have hti : ∀ w', (typeInfo e).run P w' = .ok i w' := fun w' => by simp [typeInfo, hi]
  simp only [Builtin.append_]
  simp only [List.getElem?_toArray, List.getElem?_cons_zero, List.getElem?_cons_succ]
  simp [run_underlying ht, run_underlying ht1, hsz, hti, hzv, asInt, asIntOf, hw, hneg, hkb, h1, h48', Question.forced, hfo, newRow, grownCap]
  rw [if_neg (by omega)]
  by_cases h0 : k.toNat * i.size = 0
  · rw [if_pos h0]
    have : Builtin.zeroCells z.cells k.toNat = #[] := by
      apply Array.eq_empty_of_size_eq_zero
      rw [size_zeroCells, hzs]; exact h0
    simp [this]
  · rw [if_neg h0]
end
end Go.AK
