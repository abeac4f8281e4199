import Derived.Orders
import Derived.OrdersHeld
import Derived.Laws.AppendOwn
import Derived.Laws.CopyRow
import Derived.Laws.MakeOwn
import Derived.Below
namespace Go.AK
open Go Go.RowKit
set_option linter.unusedVariables false
/-- An abstract value. -/
inductive AV where
  | un
  | b (x : Bool)
  | i (k : IntKind) (n : Int)
  | s (x : ByteArray)
  | p (a : Option (Nat × Nat))
  | sl (a : Option (Nat × Nat)) (z n c : Nat)
  | rp (cs : List AV) (o : Nat)
  | rs (cs : List AV) (o z n : Nat)
  | fn (f : Fn) (fs cap : List AV)
  | nilf
  | ifc (t : TypeId) (v : AV)
  | nili
  | agg (cs : List AV)
  | tup (vs : List AV)
  | m (a : Option Nat)
  deriving Inhabited
def AV.cells : AV → List AV
  | .agg cs => cs
  | v => [v]
/-- One cell's worth, of a kind that may be stored. -/
def AV.one : AV → Bool
  | .un | .agg _ | .tup _ => false
  | _ => true
def AV.kn : AV → Bool
  | .un => false
  | _ => true
inductive Blk where
  | dead
  | c (cs : List AV)
  | mp (es : List (AV × AV))
  deriving Inhabited
abbrev Heap := List Blk
abbrev Regs := List (Nat × AV)
structure Env where
  ρ : List (Nat × Nat × Nat)
  Im : Nat → Option Obj
mutual
def VR (E : Env) : AV → Value → Prop
  | .un, _ => True
  | .b x, v => v = .bool x
  | .i k n, v => v = .int k n
  | .s x, v => v = .string x
  | .p none, v => v = .pointer none
  | .p (some (j, o)), v => ∃ g f q, E.ρ[j]? = some (g, f, q) ∧ v = .pointer (some ⟨g, f + o, none⟩)
  | .sl none _ n c, v => n = 0 ∧ c = 0 ∧ v = .slice none 0 0
  | .sl (some (j, o)) z n c, v => ∃ g f q o', E.ρ[j]? = some (g, f, q) ∧ v = .slice (some ⟨g, o', none⟩) n c ∧ n ≤ c ∧ (o' = f + o ∧ f + o + c * z ≤ q ∨ c = 0)
  | .rp cs o, v => ∃ g f c t fz, E.Im g = some (.cells c t fz) ∧ v = .pointer (some ⟨g, f + o, none⟩) ∧ VRP E cs (c.toList.drop f)
  | .rs cs o z n, v => (n = 0 ∧ ∃ a c, v = .slice a 0 c) ∨ ∃ g f c t fz cap, E.Im g = some (.cells c t fz) ∧ v = .slice (some ⟨g, f + o, none⟩) n cap ∧ n ≤ cap ∧ VRP E cs (c.toList.drop f)
  | .fn f fs cap, v => ∃ a b, v = .func f a b ∧ VRL E fs a.toList ∧ VRL E cap b.toList
  | .nilf, v => v = .nilFunc
  | .ifc t x, v => ∃ u, v = .iface t u ∧ VR E x u
  | .nili, v => v = .nilIface
  | .agg cs, v => ∃ a, v = .agg a ∧ VRL E cs a.toList
  | .tup cs, v => ∃ a, v = .tuple a ∧ VRL E cs a.toList
  | .m none, v => v = .map none
  | .m (some j), v => ∃ g f q, E.ρ[j]? = some (g, f, q) ∧ v = .map (some g)
def VRL (E : Env) : List AV → List Value → Prop
  | [], vs => vs = []
  | x :: xs, vs => ∃ v vs', vs = v :: vs' ∧ VR E x v ∧ VRL E xs vs'
def VRP (E : Env) : List AV → List Value → Prop
  | [], _ => True
  | x :: xs, vs => ∃ v vs', vs = v :: vs' ∧ VR E x v ∧ VRP E xs vs'
end
structure Env.le (E E' : Env) : Prop where
  pre : ∀ (j : Nat) (x : Nat × Nat × Nat), E.ρ[j]? = some x → E'.ρ[j]? = some x
  im : ∀ g o, E.Im g = some o → E'.Im g = some o
theorem Env.le.refl (E : Env) : E.le E := ⟨fun _ _ h => h, fun _ _ h => h⟩
theorem Env.le.trans {A B C : Env} (h : A.le B) (k : B.le C) : A.le C := ⟨fun j x hj => k.pre j x (h.pre j x hj), fun g o hg => k.im g o (h.im g o hg)⟩
mutual
theorem VR.mono {E E' : Env} (h : E.le E') : ∀ (x : AV) (v : Value), VR E x v → VR E' x v
  | .un, _, _ => trivial
  | .b _, _, hv => hv
  | .i _ _, _, hv => hv
  | .s _, _, hv => hv
  | .p none, _, hv => hv
  | .p (some (j, o)), v, ⟨g, f, q, h1, h2⟩ => ⟨g, f, q, h.pre _ _ h1, h2⟩
  | .sl none _ _ _, _, hv => hv
  | .sl (some (j, o)) z n c, v, ⟨g, f, q, o', h1, h2⟩ => ⟨g, f, q, o', h.pre _ _ h1, h2⟩
  | .rp cs o, v, ⟨g, f, c, t, fz, h1, h2, h3⟩ => ⟨g, f, c, t, fz, h.im _ _ h1, h2, VRP.mono h cs _ h3⟩
  | .rs cs o z n, v, .inl h1 => .inl h1
  | .rs cs o z n, v, .inr ⟨g, f, c, t, fz, cap, h1, h2, h3, h4⟩ => .inr ⟨g, f, c, t, fz, cap, h.im _ _ h1, h2, h3, VRP.mono h cs _ h4⟩
  | .fn f fs cap, v, ⟨a, b, h1, h2, h3⟩ => ⟨a, b, h1, VRL.mono h fs _ h2, VRL.mono h cap _ h3⟩
  | .nilf, _, hv => hv
  | .ifc t x, v, ⟨u, h1, h2⟩ => ⟨u, h1, VR.mono h x u h2⟩
  | .nili, _, hv => hv
  | .agg cs, v, ⟨a, h1, h2⟩ => ⟨a, h1, VRL.mono h cs _ h2⟩
  | .tup cs, v, ⟨a, h1, h2⟩ => ⟨a, h1, VRL.mono h cs _ h2⟩
  | .m none, _, hv => hv
  | .m (some j), v, ⟨g, f, q, h1, h2⟩ => ⟨g, f, q, h.pre _ _ h1, h2⟩
theorem VRL.mono {E E' : Env} (h : E.le E') : ∀ (xs : List AV) (vs : List Value), VRL E xs vs → VRL E' xs vs
  | [], _, hv => hv
  | x :: xs, vs, ⟨v, vs', h1, h2, h3⟩ => ⟨v, vs', h1, VR.mono h x v h2, VRL.mono h xs vs' h3⟩
theorem VRP.mono {E E' : Env} (h : E.le E') : ∀ (xs : List AV) (vs : List Value), VRP E xs vs → VRP E' xs vs
  | [], _, _ => trivial
  | x :: xs, vs, ⟨v, vs', h1, h2, h3⟩ => ⟨v, vs', h1, VR.mono h x v h2, VRP.mono h xs vs' h3⟩
end
theorem VRL.length {E : Env} : ∀ {xs : List AV} {vs : List Value}, VRL E xs vs → vs.length = xs.length
  | [], _, h => by cases h; rfl
  | x :: xs, _, ⟨v, vs', h1, _, h3⟩ => by subst h1; simp [VRL.length h3]
theorem VRP.length {E : Env} : ∀ {xs : List AV} {vs : List Value}, VRP E xs vs → xs.length ≤ vs.length
  | [], _, _ => Nat.zero_le _
  | x :: xs, _, ⟨v, vs', h1, _, h3⟩ => by subst h1; simpa using VRP.length h3
theorem VRL.pfx {E : Env} : ∀ {xs : List AV} {vs : List Value}, VRL E xs vs → ∀ ws, VRP E xs (vs ++ ws)
  | [], _, _, _ => trivial
  | x :: xs, _, ⟨v, vs', h1, h2, h3⟩, ws => by subst h1; exact ⟨v, vs' ++ ws, rfl, h2, VRL.pfx h3 ws⟩
theorem VRL.vrp {E : Env} {xs : List AV} {vs : List Value} (h : VRL E xs vs) : VRP E xs vs := by simpa using h.pfx []
theorem VRP.get {E : Env} : ∀ {xs : List AV} {vs : List Value} {i : Nat} {x : AV}, VRP E xs vs → xs[i]? = some x → ∃ v, vs[i]? = some v ∧ VR E x v
  | x :: xs, _, 0, y, ⟨v, vs', h1, h2, h3⟩, h => by subst h1; simp at h; subst h; exact ⟨v, rfl, h2⟩
  | x :: xs, _, i + 1, y, ⟨v, vs', h1, h2, h3⟩, h => by subst h1; simpa using VRP.get h3 (by simpa using h)
  | [], _, _, _, _, h => by simp at h
theorem VRP.drop {E : Env} : ∀ {xs : List AV} {vs : List Value} (n : Nat), VRP E xs vs → VRP E (xs.drop n) (vs.drop n)
  | xs, vs, 0, h => by simpa using h
  | [], _, n + 1, _ => by simp [VRP]
  | x :: xs, _, n + 1, ⟨v, vs', h1, h2, h3⟩ => by subst h1; simpa using VRP.drop n h3
theorem VRP.take {E : Env} : ∀ {xs : List AV} {vs : List Value} (n : Nat), VRP E xs vs → n ≤ xs.length → VRL E (xs.take n) (vs.take n)
  | xs, vs, 0, _, _ => by simp [VRL]
  | [], _, n + 1, _, h => by simp at h
  | x :: xs, _, n + 1, ⟨v, vs', h1, h2, h3⟩, h => by subst h1; exact ⟨v, vs'.take n, by simp, h2, VRP.take n h3 (by simpa using h)⟩
theorem VRP.set {E : Env} : ∀ {xs : List AV} {vs : List Value} (n : Nat) {x : AV} {v : Value}, VRP E xs vs → VR E x v → n < xs.length → VRP E (xs.set n x) (vs.set n v)
  | [], _, n, _, _, _, _, h => by simp at h
  | y :: xs, _, 0, x, v, ⟨u, vs', h1, h2, h3⟩, hv, _ => by subst h1; exact ⟨v, vs', by simp, hv, h3⟩
  | y :: xs, _, n + 1, x, v, ⟨u, vs', h1, h2, h3⟩, hv, h => by subst h1; exact ⟨u, vs'.set n v, by simp, h2, VRP.set n h3 hv (by simpa using h)⟩
theorem VRL.get {E : Env} {xs : List AV} {vs : List Value} {i : Nat} {x : AV} (h : VRL E xs vs) (hx : xs[i]? = some x) : ∃ v, vs[i]? = some v ∧ VR E x v := h.vrp.get hx
theorem VRL.append {E : Env} : ∀ {xs ys : List AV} {vs ws : List Value}, VRL E xs vs → VRL E ys ws → VRL E (xs ++ ys) (vs ++ ws)
  | [], _, _, _, h, k => by cases h; simpa using k
  | x :: xs, _, _, _, ⟨v, vs', h1, h2, h3⟩, k => by subst h1; exact ⟨v, _, rfl, h2, VRL.append h3 k⟩
theorem AV.one_cell {E : Env} {x : AV} {v : Value} (h : VR E x v) (ho : x.one = true) : v.oneCell' = true := by
  cases x with
  | un => simp [AV.one] at ho
  | agg _ => simp [AV.one] at ho
  | tup _ => simp [AV.one] at ho
  | b _ => cases h; rfl
  | i _ _ => cases h; rfl
  | s _ => cases h; rfl
  | p a =>
    rcases a with _ | ⟨j, o⟩
    · cases h; rfl
    · obtain ⟨g, f, q, _, rfl⟩ := h; rfl
  | sl a z n c =>
    rcases a with _ | ⟨j, o⟩
    · obtain ⟨_, _, rfl⟩ := h; rfl
    · obtain ⟨g, f, q, o', _, rfl, _⟩ := h; rfl
  | rp cs o => obtain ⟨g, f, c, t, fz, _, rfl, _⟩ := h; rfl
  | rs cs o z n =>
    rcases h with ⟨_, a, c, rfl⟩ | ⟨g, f, c, t, fz, cap, _, rfl, _⟩ <;> rfl
  | fn f fs cap => obtain ⟨a, b, rfl, _⟩ := h; rfl
  | nilf => cases h; rfl
  | ifc t x => obtain ⟨u, rfl, _⟩ := h; rfl
  | nili => cases h; rfl
  | m a =>
    rcases a with _ | j
    · cases h; rfl
    · obtain ⟨g, f, q, _, rfl⟩ := h; rfl
/-- A value's cells. -/
theorem VR.cells {E : Env} {x : AV} {v : Value} (h : VR E x v) (hx : x ≠ .un) : VRL E x.cells v.cells.toList := by
  cases x with
  | un => exact absurd rfl hx
  | agg cs => obtain ⟨a, rfl, h⟩ := h; exact h
  | tup cs => obtain ⟨a, rfl, h1⟩ := h; exact ⟨_, [], rfl, ⟨a, rfl, h1⟩, rfl⟩
  | b _ => cases h; exact ⟨_, [], rfl, rfl, rfl⟩
  | i _ _ => cases h; exact ⟨_, [], rfl, rfl, rfl⟩
  | s _ => cases h; exact ⟨_, [], rfl, rfl, rfl⟩
  | p a =>
    rcases a with _ | ⟨j, o⟩
    · cases h; exact ⟨_, [], rfl, rfl, rfl⟩
    · obtain ⟨g, f, q, h1, rfl⟩ := h; exact ⟨_, [], rfl, ⟨g, f, q, h1, rfl⟩, rfl⟩
  | sl a z n c =>
    rcases a with _ | ⟨j, o⟩
    · obtain ⟨h1, h2, rfl⟩ := h; exact ⟨_, [], rfl, ⟨h1, h2, rfl⟩, rfl⟩
    · obtain ⟨g, f, q, o', h1, rfl, h2⟩ := h; exact ⟨_, [], rfl, ⟨g, f, q, o', h1, rfl, h2⟩, rfl⟩
  | rp cs o => obtain ⟨g, f, c, t, fz, h1, rfl, h2⟩ := h; exact ⟨_, [], rfl, ⟨g, f, c, t, fz, h1, rfl, h2⟩, rfl⟩
  | rs cs o z n =>
    rcases h with ⟨h0, a, c, rfl⟩ | ⟨g, f, c, t, fz, cap, h1, rfl, h2⟩
    · exact ⟨_, [], rfl, .inl ⟨h0, a, c, rfl⟩, rfl⟩
    · exact ⟨_, [], rfl, .inr ⟨g, f, c, t, fz, cap, h1, rfl, h2⟩, rfl⟩
  | fn f fs cap => obtain ⟨a, b, rfl, h1⟩ := h; exact ⟨_, [], rfl, ⟨a, b, rfl, h1⟩, rfl⟩
  | nilf => cases h; exact ⟨_, [], rfl, rfl, rfl⟩
  | ifc t x => obtain ⟨u, rfl, h1⟩ := h; exact ⟨_, [], rfl, ⟨u, rfl, h1⟩, rfl⟩
  | nili => cases h; exact ⟨_, [], rfl, rfl, rfl⟩
  | m a =>
    rcases a with _ | j
    · cases h; exact ⟨_, [], rfl, rfl, rfl⟩
    · obtain ⟨g, f, q, h1, rfl⟩ := h; exact ⟨_, [], rfl, ⟨g, f, q, h1, rfl⟩, rfl⟩
end Go.AK
