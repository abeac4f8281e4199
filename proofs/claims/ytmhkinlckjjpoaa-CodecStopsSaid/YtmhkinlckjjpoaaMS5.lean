/- Texts STop: an evaluator of the model's code, proved sound, and what the program's functions do, for all inputs. -/
import Derived.Test.YtmhkinlckjjpoaaMS4
namespace Go.AK
open Go Go.RowKit Go.Proofs
set_option linter.unusedVariables false
set_option maxRecDepth 100000
theorem okT_ints : ∀ fuel, okT T fuel 22 = true
  | 0 => rfl
  | 1 => rfl
  | n + 2 => rfl
theorem WT_i64 : ∀ {n : Nat} {ys : List AV}, WT T n 3 ys → ∃ m, ys = [.i .i64 m] ∧ (Lit.int .i64 m).wf = true
  | 0, _, h => h.elim
  | n + 1, ys, h => h
theorem WT_ints : ∀ {fuel : Nat} {xs : List AV}, WT T fuel 22 xs → ∃ L : List Int, xs = [.rs (ints L) 0 1 L.length] ∧ L.length ≤ maxLen ∧ ∀ x ∈ L, (Lit.int .i64 x).wf = true
  | 0, _, h => h.elim
  | n + 1, xs, h => by
    obtain ⟨m, cs, hx, hm, hc⟩ := (show ∃ m cs, xs = [AV.rs cs 0 1 m] ∧ m ≤ maxLen ∧ WTs (WT T n) (List.replicate m 3) cs from h)
    obtain ⟨L, hL, hl, hw⟩ := WTs_ints (fun ys => WT_i64) m cs hc
    subst hL
    exact ⟨L, by rw [hx, hl], by omega, hw⟩
theorem okT_frame : ∀ fuel, okT T fuel 26 = true
  | 0 => rfl
  | 1 => rfl
  | 2 => rfl
  | n + 3 => rfl
theorem okT_frames : ∀ fuel, okT T fuel 36 = true
  | 0 => rfl
  | 1 => rfl
  | 2 => rfl
  | 3 => rfl
  | n + 4 => rfl
theorem i64_in {n : Int} (h : (Lit.int .i64 n).wf = true) : -9223372036854775808 ≤ n ∧ n ≤ 9223372036854775807 := by
  have := Bool.and_eq_true_iff.1 (show (decide (IntKind.min .i64 ≤ n) && decide (n ≤ IntKind.max .i64)) = true from h)
  exact ⟨of_decide_eq_true this.1, of_decide_eq_true this.2⟩
theorem u8_in {n : Int} (h : (Lit.int .u8 n).wf = true) : 0 ≤ n ∧ n < 256 := by
  have := Bool.and_eq_true_iff.1 (show (decide (IntKind.min .u8 ≤ n) && decide (n ≤ IntKind.max .u8)) = true from h)
  have h1 : (0 : Int) ≤ n := of_decide_eq_true this.1
  have h2 : n ≤ (255 : Int) := of_decide_eq_true this.2
  omega
theorem WT_frame : ∀ {fuel : Nat} {xs : List AV}, WT T fuel 26 xs → ∃ F : Fr, xs = F.cells ∧ F.ok
  | 0, _, h => h.elim
  | 1, xs, h => by
    obtain ⟨ys, zs, _, h1, _⟩ := (show WTs (WT T 0) [3, 4, 4, 3, 24] xs from h)
    exact h1.elim
  | 2, xs, h => by
    obtain ⟨y0, z0, rfl, h0, h⟩ := (show WTs (WT T 1) [3, 4, 4, 3, 24] xs from h)
    obtain ⟨y1, z1, rfl, h1, h⟩ := h
    obtain ⟨y2, z2, rfl, h2, h⟩ := h
    obtain ⟨y3, z3, rfl, h3, h⟩ := h
    obtain ⟨y4, z4, rfl, h4, h⟩ := h
    obtain ⟨a, b, _, h5, _⟩ := (show WTs (WT T 0) (List.replicate 8 5) y4 from h4)
    exact h5.elim
  | n + 3, xs, h => by
    obtain ⟨y0, z0, rfl, h0, h⟩ := (show WTs (WT T (n + 2)) [3, 4, 4, 3, 24] xs from h)
    obtain ⟨y1, z1, rfl, h1, h⟩ := h
    obtain ⟨y2, z2, rfl, h2, h⟩ := h
    obtain ⟨y3, z3, rfl, h3, h⟩ := h
    obtain ⟨y4, z4, rfl, h4, h⟩ := h
    obtain rfl := (show z4 = [] from h)
    obtain ⟨id, rfl, w0⟩ := (show ∃ m, y0 = [.i .i64 m] ∧ (Lit.int .i64 m).wf = true from h0)
    obtain ⟨ext, rfl⟩ := (show ∃ b, y1 = [.b b] from h1)
    obtain ⟨rtr, rfl⟩ := (show ∃ b, y2 = [.b b] from h2)
    obtain ⟨len, rfl, w3⟩ := (show ∃ m, y3 = [.i .i64 m] ∧ (Lit.int .i64 m).wf = true from h3)
    obtain ⟨L, hL, hl, hw⟩ := WTs_ints (T := T) (n := n + 1) (e := 5) (k := .u8) (fun ys hy => (show ∃ m, ys = [.i .u8 m] ∧ (Lit.int .u8 m).wf = true from hy)) 8 y4 (show WTs (WT T (n + 1)) (List.replicate 8 5) y4 from h4)
    subst hL
    obtain ⟨b0, b1, b2, b3, b4, b5, b6, b7, rfl⟩ : ∃ b0 b1 b2 b3 b4 b5 b6 b7, L = [b0, b1, b2, b3, b4, b5, b6, b7] := by
      match L, hl with
      | [a, b, c, d, e, f, g, h], _ => exact ⟨a, b, c, d, e, f, g, h, rfl⟩
    exact ⟨⟨id, ext, rtr, len, b0, b1, b2, b3, b4, b5, b6, b7⟩, rfl, i64_in w0, i64_in w3, fun x hx => u8_in (hw x hx)⟩
theorem WTs_frames {n : Nat} : ∀ (m : Nat) (cs : List AV), WTs (WT T n) (List.replicate m 26) cs → ∃ L : List Fr, cs = frs L ∧ L.length = m ∧ ∀ F ∈ L, F.ok
  | 0, cs, hc => ⟨[], (show cs = [] from hc), rfl, fun x hx => by cases hx⟩
  | m + 1, cs, hc => by
    rw [List.replicate_succ] at hc
    obtain ⟨ys, zs, rfl, h1, h2⟩ := hc
    obtain ⟨F, rfl, hF⟩ := WT_frame h1
    obtain ⟨L, rfl, hl, hL⟩ := WTs_frames m zs h2
    refine ⟨F :: L, rfl, by simp [hl], fun y hy => ?_⟩
    rcases List.mem_cons.1 hy with rfl | hy
    · exact hF
    · exact hL y hy
theorem WT_frames : ∀ {fuel : Nat} {xs : List AV}, WT T fuel 36 xs → ∃ l : List Fr, xs = [.rs (frs l) 0 12 l.length] ∧ l.length ≤ maxLen ∧ ∀ F ∈ l, F.ok
  | 0, _, h => h.elim
  | n + 1, xs, h => by
    obtain ⟨m, cs, hx, hm, hc⟩ := (show ∃ m cs, xs = [AV.rs cs 0 12 m] ∧ m ≤ maxLen ∧ WTs (WT T n) (List.replicate m 26) cs from h)
    obtain ⟨L, hL, hl, hw⟩ := WTs_frames m cs hc
    subst hL
    exact ⟨L, by rw [hx, hl], by omega, hw⟩
end Go.AK
