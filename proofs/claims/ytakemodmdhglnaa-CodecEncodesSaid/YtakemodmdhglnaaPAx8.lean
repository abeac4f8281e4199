/- Functions of the program, in plain Lean, and their walks (printed; half the indent). Conditions: none. -/
-- PRINTED by print.py (a twelfth state) out of the translation. Not trusted: Lean checks it.
import Derived.Test.YtakemodmdhglnaaPAx0
namespace Go.Proofs.Ytakemodmdhglnaa.PA
open Go.RowKit Go.Proofs.YtakemodmdhglnaaW.PrintWords Go.Proofs.YtakemodmdhglnaaW.PrintLast Go.Proofs.YtakemodmdhglnaaW.PrintMore
attribute [local go_sem] zqbb zqaz zqbd zqbe zqax zqay zqba zqbc   -- for this text's walks alone
set_option linter.unusedVariables false
set_option linter.unusedSimpArgs false

/-! HAND bits_Check: function 53 -/
/-- Where the first one that is no level stands, from place i on; -1: nowhere. -/
def chk : List Int → Int → Int
 | [], _ => -1
 | x :: t, i => if x = 0 ∨ x = 1 then chk t (i + 1) else i
def isLevel (x : Int) : Bool := x == 0 || x == 1
def bits_Check.f (l0 : List Int) : Option Int := some (chk l0 0)
theorem chk_all (l : List Int) : ∀ i : Int, 0 ≤ i → chk l i < 0 → ∀ x ∈ l, x = 0 ∨ x = 1 := by
 induction l with
 | nil => intro i _ _ x hx; simp at hx
 | cons y t ih =>
  intro i hi h x hx
  rw [chk] at h
  by_cases hy : y = 0 ∨ y = 1
  ·
   rw [if_pos hy] at h
   rcases List.mem_cons.1 hx with rfl | hx
   ·
    exact hy
   ·
    exact ih (i + 1) (by omega) h x hx
  ·
   rw [if_neg hy] at h
   omega
theorem chk_at {l : List Int} (h : chk l 0 < 0) (k : Nat) (hk : k < l.length) : rd l (k : Int) = 0 ∨ rd l (k : Int) = 1 := by
 refine chk_all l 0 (by omega) h _ ?_
 simp [rd, List.getD_eq_getElem?_getD, List.getElem?_eq_getElem hk]
theorem chk_step (l : List Int) (k : Nat) (hk : k < l.length) (h : isLevel (l.getD k 0) = true) : chk (l.drop k) k = chk (l.drop (k + 1)) (k + 1) := by
 rw [List.drop_eq_getElem_cons hk, chk, if_pos]
 have e : l.getD k 0 = l[k] := by simp [List.getD_eq_getElem?_getD, List.getElem?_eq_getElem hk]
 rw [e] at h
 simpa [isLevel] using h
theorem chk_stop (l : List Int) (k : Nat) (hk : k < l.length) (h : isLevel (l.getD k 0) = false) : chk (l.drop k) k = k := by
 rw [List.drop_eq_getElem_cons hk, chk, if_neg]
 have e : l.getD k 0 = l[k] := by simp [List.getD_eq_getElem?_getD, List.getElem?_eq_getElem hk]
 rw [e] at h
 simpa [isLevel] using h
theorem checkLevel.calls (x : Int) (w : World) :
  Calls Try.prog 76 #[.int .i64 x] w fun e w' => e = .returned (.bool (!isLevel x)) ∧ Drawn0 w w' := by
 by_cases h0 : x = 0
 ·
  subst h0
  go_enter Try.func76, Try.ntmps76
  go_wp2
  go_ret
  exact ⟨by simp [isLevel], by repeat (first | exact Drawn0.refl _ | apply Drawn0.step)⟩
 ·
  have h0b : (x == 0) = false := beq_eq_false_iff_ne.mpr h0
  go_enter Try.func76, Try.ntmps76
  go_wp2
  all_goals go_ret
  all_goals exact ⟨by simp [isLevel, h0b], by repeat (first | exact Drawn0.refl _ | apply Drawn0.step)⟩
set_option maxHeartbeats 1000000 in
theorem indexFunc.calls (A0 : Option Addr) (c0 : Nat) (l0 : List Int) (w : World) (hr0 : Kd.C (Kd.int .i64) w A0 l0.length l0) :
  Calls Try.prog 75 #[.slice A0 l0.length c0, .func (.func 76) #[] #[]] w fun e w' => e = .returned (.int .i64 (chk l0 0)) ∧ Drawn0 w w' := by
 have HR0 := Aside0.mk hr0
 have hm : l0.length ≤ 9223372036854775807 := hr0.2.1
 clear hr0
 go_enter Try.func75, Try.ntmps75
 go_wp2
 go_loopw [8] (fun i wr => ∃ k : Nat, k ≤ l0.length ∧ i = .int .i64 k ∧ Aside0 (chk (l0.drop k) k = chk l0 0) ∧ Drawn0 w wr) (fun i _ => l0.length - (intOf i).toNat)
 case atStart => exact ⟨0, Nat.zero_le _, rfl, ⟨rfl⟩, Drawn0.refl _⟩
 case round =>
  obtain ⟨k, hk, rfl, HK, HD⟩ := hrel
  obtain ⟨m, rfl⟩ := HD.out
  clear HD
  by_cases hlt : k < l0.length
  ·
   obtain ⟨ad, e, hx⟩ := Kd.at_int HR0.out (k : Int) (by omega) (by omega)
   cases e
   simp only [Int.toNat_natCast] at hx
   have hrd : rd l0 (k : Int) = l0.getD k 0 := by simp [rd]
   generalize hy : isLevel (rd l0 (k : Int)) = y
   have HY := Aside0.mk hy
   have HRD := Aside0.mk hrd
   clear hrd
   have HC := Aside0.mk (checkLevel.calls (rd l0 (k : Int)))
   rw [hy] at HC
   clear hy
   cases y with
   | true =>
    go_wp2_with (go_at_call 76; refine (HC.out _).mono ?_; rintro e w' ⟨rfl, ⟨n, rfl⟩⟩)
    go_roundw
    case rel => exact ⟨k + 1, by omega, by go_num, ⟨by rw [show (((k + 1 : Nat)) : Int) = (k : Int) + 1 from by omega, ← chk_step l0 k hlt (by rw [← HRD.out, HY.out])]; exact HK.out⟩, ⟨⟨m + n, rfl⟩⟩⟩
    case measure => simp [intOf]; omega
   | false =>
    go_wp2_with (go_at_call 76; refine (HC.out _).mono ?_; rintro e w' ⟨rfl, ⟨n, rfl⟩⟩)
    go_ret
    exact ⟨by rw [← HK.out, chk_stop l0 k hlt (by rw [← HRD.out, HY.out])]; rfl, ⟨⟨m + n, rfl⟩⟩⟩
  ·
   have hke : k = l0.length := by omega
   go_wp2
   go_ret
   exact ⟨by rw [← HK.out, List.drop_eq_nil_of_le (by omega)]; rfl, Drawn0.step (Drawn0.refl w) m⟩
theorem bits_Check.calls (A0 : Option Addr) (c0 : Nat) (l0 : List Int) (r : Int) (w : World) (hr0 : Kd.C (Kd.int .i64) w A0 l0.length l0) (hc0 : l0.length ≤ c0) (h : bits_Check.f l0 = some r) :
  Calls Try.prog 53 #[.slice A0 l0.length c0] w fun e w' => e = .returned (.int .i64 r) ∧ Drawn0 w w' := by
 obtain rfl := Option.some.inj h
 have hcon := indexFunc.calls A0 c0 l0 w hr0
 clear hr0 hc0 h
 generalize chk l0 0 = r at hcon
 have H := Aside0.mk hcon
 clear hcon
 go_enter Try.func53, Try.ntmps53
 go_wp2_with (go_at_call 75; refine H.out.mono ?_; rintro e w' ⟨rfl, ⟨n, rfl⟩⟩)
 go_ret
 exact ⟨rfl, ⟨n, rfl⟩⟩


end Go.Proofs.Ytakemodmdhglnaa.PA
