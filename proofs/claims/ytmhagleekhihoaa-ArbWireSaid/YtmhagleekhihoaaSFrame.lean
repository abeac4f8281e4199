import Derived.Test.YtmhagleekhihoaaSConcat
namespace Go.AK
open Go Go.RowKit Go.Proofs
set_option linter.unusedVariables false
set_option maxRecDepth 100000
structure Fr where
  id : Int
  ext : Bool
  rtr : Bool
  len : Int
  b0 : Int
  b1 : Int
  b2 : Int
  b3 : Int
  b4 : Int
  b5 : Int
  b6 : Int
  b7 : Int
  deriving DecidableEq
def Fr.d (F : Fr) : List Int := [F.b0, F.b1, F.b2, F.b3, F.b4, F.b5, F.b6, F.b7]
def Fr.cells (F : Fr) : List AV := [.i .i64 F.id, .b F.ext, .b F.rtr, .i .i64 F.len, .i .u8 F.b0, .i .u8 F.b1, .i .u8 F.b2, .i .u8 F.b3, .i .u8 F.b4, .i .u8 F.b5, .i .u8 F.b6, .i .u8 F.b7]
def Fr.av (F : Fr) : AV := .agg F.cells
/-- Its parts are of their kinds. -/
structure Fr.ok (F : Fr) : Prop where
  id : -9223372036854775808 ≤ F.id ∧ F.id ≤ 9223372036854775807
  len : -9223372036854775808 ≤ F.len ∧ F.len ≤ 9223372036854775807
  d : ∀ x ∈ F.d, 0 ≤ x ∧ x < 256
def Fr.out (F : Fr) : Nat := if F.rtr = true then 0 else F.len.toNat
def Fr.may (F : Fr) : Prop := 0 ≤ F.id ∧ F.id ≤ (if F.ext = true then 536870911 else 2047) ∧ 0 ≤ F.len ∧ F.len ≤ 8 ∧ ∀ x ∈ F.d.drop F.out, x = 0
instance (F : Fr) : Decidable F.may := by unfold Fr.may; infer_instance
def Fr.chk (F : Fr) : Int := if F.may then 0 else 14
theorem Fr.tail0 (F : Fr) (u : Nat) (hu : u ≤ 8) : (F.cells.drop (0 + 4 + u)).take ((8 - u) * 1) = nums .u8 (F.d.drop u) := by
  have h : u = 0 ∨ u = 1 ∨ u = 2 ∨ u = 3 ∨ u = 4 ∨ u = 5 ∨ u = 6 ∨ u = 7 ∨ u = 8 := by omega
  rcases h with rfl | rfl | rfl | rfl | rfl | rfl | rfl | rfl | rfl <;> rfl
theorem Fr.bad {F : Fr} (h : ¬F.may) : F.chk = 14 := if_neg h
theorem Fr.good {F : Fr} (h : F.may) : F.chk = 0 := if_pos h
theorem check_spec (F : Fr) (hF : F.ok) : ACall Try.prog 28 [F.av] [] fun r H => r = .ret (.i .i64 F.chk) ∧ H = [] := by
  refine ACall.gh ?_
  refine ACall.enter tok false Try.func28 rfl rfl rfl (AW_sound (ip := false) tok _ _ _ _ ?_)
  have fin : ∀ v (H : Heap), v = F.chk → GhR 0 (fun r H => r = ARes.ret (.i .i64 F.chk) ∧ H = []) (.ret (.i .i64 v)) H := by
    rintro v H rfl
    exact GhR.sel [] rfl (GhR.of ⟨rfl, rfl⟩)
  have bad : ∀ (H : Heap), ¬F.may → GhR 0 (fun r H => r = ARes.ret (.i .i64 F.chk) ∧ H = []) (.ret (.i .i64 14)) H := fun H h => fin _ _ (Fr.bad h).symm
  conv => whnf
  cases he : F.ext <;> (conv => whnf) <;> cases hr : F.rtr <;> (conv => whnf)
  all_goals
    by_cases h1 : F.id < 0
    · rw [decide_eq_true h1]
      conv => whnf
      exact bad _ fun h => by have := h.1; omega
    rw [decide_eq_false h1]
    conv => whnf
    by_cases h2 : F.id > (if F.ext = true then 536870911 else 2047)
    · have h2' := h2
      simp only [he, if_true, if_false, reduceCtorEq] at h2'
      rw [decide_eq_true h2']
      conv => whnf
      exact bad _ fun h => by have := h.2.1; omega
    have h2' := h2
    simp only [he, if_true, if_false, reduceCtorEq] at h2'
    rw [decide_eq_false h2']
    conv => whnf
    by_cases h3 : F.len < 0
    · rw [decide_eq_true h3]
      conv => whnf
      exact bad _ fun h => by have := h.2.2.1; omega
    rw [decide_eq_false h3]
    conv => whnf
    by_cases h4 : F.len > 8
    · rw [decide_eq_true h4]
      conv => whnf
      exact bad _ fun h => by have := h.2.2.2.1; omega
    rw [decide_eq_false h4]
    conv => whnf
    refine ⟨by show 12 ≤ (12 : Nat); omega, ?_⟩
    conv => whnf
    refine ⟨?_, ?_⟩
    · omega
    conv => whnf
    refine ⟨by show 1 ≤ (1 : Nat); omega, ?_⟩
    conv => whnf
    have e0 : F.out = if F.rtr = true then 0 else F.len.toNat := rfl
    simp only [hr, if_true, if_false, reduceCtorEq] at e0
    have e8 : F.out ≤ 8 := by omega
    have e1 : F.rtr = true → Int.toNat 0 = F.out := fun h => by rw [show F.out = 0 from if_pos h]; rfl
    have e2 : F.rtr = false → F.len.toNat = F.out := fun h => by rw [show F.out = F.len.toNat from if_neg (by rw [h]; exact Bool.false_ne_true)]
    first | rw [e1 hr] | rw [e2 hr]
    refine ⟨by show _ + _ * 1 ≤ (12 : Nat); omega, ?_⟩
    conv => whnf
    first | rw [e1 hr] | rw [e2 hr] | skip
    dsimp only
    rw [show F.av.cells = F.cells from rfl, F.tail0 F.out e8]
    refine ⟨ones_nums _ _, by omega, by omega, fun c hc => ?_⟩
    conv => whnf
    have hdl : (F.d.drop F.out).length = 8 - F.out := by simp [Fr.d]
    refine ACall.frame [] [2] rfl (args' := [.rs (nums .u8 (0 :: F.d.drop F.out)) 0 1 ((F.d.drop F.out).length + 1)]) (Hc := []) ?_ rfl (max_spec 0 (F.d.drop F.out) (by omega)) ?_
    · rw [hdl, Nat.add_comm (8 - F.out) 1]
      show [AV.rs (subs _ (nums .u8 (0 :: F.d.drop F.out))) 0 1 (1 + (8 - F.out))] = _
      rw [subs_nums]
    rintro r H ⟨rfl, rfl⟩
    refine ⟨.inr ⟨rfl, rfl⟩, ?_⟩
    conv => whnf
    have hm := maxFrom_pos (F.d.drop F.out) 0
    by_cases h5 : maxFrom 0 (F.d.drop F.out) > 0
    · rw [decide_eq_true h5]
      conv => whnf
      refine bad _ fun h => ?_
      rcases hm.1 h5 with h6 | ⟨x, h6, h7⟩
      · omega
      · have := h.2.2.2.2 x h6; omega
    · rw [decide_eq_false h5]
      conv => whnf
      refine fin _ _ (Fr.good ⟨by omega, by omega, by omega, by omega, fun x hx => ?_⟩).symm
      have h6 := hF.d x (List.mem_of_mem_drop hx)
      by_cases h7 : 0 < x
      · exact absurd (hm.2 (.inr ⟨x, hx, h7⟩)) h5
      · omega
end Go.AK
