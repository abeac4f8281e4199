/- Functions of the program, in plain Lean, and their walks (printed; half the indent). Conditions: none. -/
-- PRINTED by print.py (a twelfth state) out of the translation. Not trusted: Lean checks it.
import Derived.Test.YtakemodmdhglnaaPAx0
import Derived.Test.YtakemodmdhglnaaPAx8
import Derived.Test.YtakemodmdhglnaaPAx9
namespace Go.Proofs.Ytakemodmdhglnaa.PA
open Go.RowKit Go.Proofs.YtakemodmdhglnaaW.PrintWords Go.Proofs.YtakemodmdhglnaaW.PrintLast Go.Proofs.YtakemodmdhglnaaW.PrintMore
attribute [local go_sem] zqbb zqaz zqbd zqbe zqax zqay zqba zqbc   -- for this text's walks alone
set_option linter.unusedVariables false
set_option linter.unusedSimpArgs false

/-! HAND crc15_Sum: function 47 -/
/-- The sum behind a level. -/
def crcStep (s x : Int) : Int := (crc15_step.f s x).getD 0
theorem crcStep_some (s x : Int) : crc15_step.f s x = some (crcStep s x) := by
 unfold crcStep crc15_step.f
 split <;> rfl
def crc15_Sum.f (l0 : List Int) : Option (Int × Int) := if chk l0 0 ≥ 0 then some (0, 10) else some (l0.foldl crcStep 0, 0)
theorem crcOn.calls (x s : Int) (B : Nat) (W : World) (hc : W.cell? ⟨B, 0, none⟩ = some (.int .i64 s)) (hf : W.frozen? ⟨B, 0, none⟩ = false) :
  Calls Try.prog 68 #[.int .i64 x, .pointer (some ⟨B, 0, none⟩)] W fun e w' => e = .returned (.tuple #[]) ∧ ∃ n, w' = (W.drewN n).setCell ⟨B, 0, none⟩ (.int .i64 (crcStep s x)) := by
 have HC := Aside0.mk (fun w => crc15_step.calls s x (crcStep s x) w (crcStep_some s x))
 go_enter Try.func68, Try.ntmps68
 go_wp2_with (go_at_call 69; refine (HC.out _).mono ?_; rintro e w' ⟨rfl, ⟨n, rfl⟩⟩)
 go_end0
 exact ⟨rfl, _, rfl⟩
theorem foldl_at (l : List Int) (k : Nat) (hk : k < l.length) (s : Int) : (l.drop k).foldl crcStep s = (l.drop (k + 1)).foldl crcStep (crcStep s (rd l (k : Int))) := by
 rw [List.drop_eq_getElem_cons hk]
 simp only [List.foldl_cons, rd, Int.toNat_natCast, List.getD_eq_getElem?_getD, List.getElem?_eq_getElem hk, Option.getD_some]
set_option maxHeartbeats 1000000 in
theorem crc15_Sum.calls (A0 : Option Addr) (c0 : Nat) (l0 : List Int) (r1 : Int) (r2 : Int) (w : World) (hr0 : Kd.C (Kd.int .i64) w A0 l0.length l0) (hc0 : l0.length ≤ c0) (h : crc15_Sum.f l0 = some (r1, r2)) :
  Calls Try.prog 47 #[.slice A0 l0.length c0] w fun e w' => e = .returned (.tuple #[.int .i64 r1, .int .i64 r2]) ∧ Below w.heap.size w w' := by
 unfold crc15_Sum.f at h
 have HC := Aside0.mk (bits_Check.calls A0 c0 l0 (chk l0 0) w hr0 hc0 rfl)
 have HR0 := Aside0.mk hr0
 have hm : l0.length ≤ 9223372036854775807 := hr0.2.1
 clear hr0 hc0
 by_cases c : chk l0 0 ≥ 0
 ·
  rw [if_pos c] at h
  simp only [Option.some.injEq, Prod.mk.injEq] at h
  obtain ⟨rfl, rfl⟩ := h
  go_enter Try.func47, Try.ntmps47
  go_wp2_with (go_at_call 53; refine HC.out.mono ?_; rintro e w' ⟨rfl, ⟨n, rfl⟩⟩)
  go_ret2
  exact ⟨rfl, zqac (Below.refl _ _) _⟩
 ·
  rw [if_neg c] at h
  simp only [Option.some.injEq, Prod.mk.injEq] at h
  obtain ⟨e1, rfl⟩ := h
  have HE := Aside0.mk e1
  clear e1
  have cb : decide (0 ≤ chk l0 0) = false := decide_eq_false c
  clear c
  generalize chk l0 0 = rc at HC cb
  have hmf : ∀ (fn : Fn) (first cap : Array Value) (w : World), (Instr.makeFunc fn first cap).run Try.prog w = .ok (.func fn first cap) w := fun _ _ _ _ => rfl
  go_enter Try.func47, Try.ntmps47
  go_wp2_with (go_at_call 53; refine HC.out.mono ?_; rintro e w1 ⟨rfl, hd⟩; have HB1 := Aside0.mk hd.below; have HR1 := Aside0.mk (Kd.C_below HR0.out hd.below); clear hd)
  go_loopw [13] (fun i wr => ∃ (k : Nat) (s : Int), k ≤ l0.length ∧ i = .int .i64 k ∧ Aside0 ((l0.drop k).foldl crcStep s = r1) ∧ Aside0 (Below w1.heap.size w1 wr) ∧ wr.cell? ⟨w1.heap.size, 0, none⟩ = some (.int .i64 s) ∧ wr.frozen? ⟨w1.heap.size, 0, none⟩ = false) (fun i _ => l0.length - (intOf i).toNat)
  case atStart => exact ⟨0, 0, Nat.zero_le _, rfl, HE, ⟨(Below.refl _ _).alloc (Nat.le_refl _) _⟩, by simp, by simp⟩
  case round =>
   obtain ⟨k, s, hk, rfl, HK, HB, hcell, hfro⟩ := hrel
   by_cases hlt : k < l0.length
   ·
    obtain ⟨ad, e, hx⟩ := Kd.at_int HR1.out (k : Int) (by omega) (by omega)
    cases e
    simp only [Int.toNat_natCast] at hx
    replace hx := (HB.out.cell (World.block_lt_of_cell? w1 _ hx)).trans hx
    have HF := Aside0.mk (foldl_at l0 k hlt s)
    have HC2 := Aside0.mk (crcOn.calls (rd l0 (k : Int)) s w1.heap.size wr hcell hfro)
    have hsz := World.block_lt_of_cell? wr _ hcell
    have HSZ := Aside0.mk hsz
    clear hsz
    go_wp2_with (go_at_call 68; refine HC2.out.mono ?_; rintro e w2 ⟨rfl, ⟨n, rfl⟩⟩)
    refine ⟨⟨k + 1, crcStep s (rd l0 (k : Int)), by omega, by go_num, ⟨by rw [← HF.out]; exact HK.out⟩, ⟨zqah (zqac HB.out n) (Nat.le_refl _)⟩, ?_, ?_⟩, by simp [intOf]; omega⟩
    ·
     exact World.cell?_setCell_same (wr.drewN n) _ _ hcell
    ·
     rw [World.frozen?_setCell]
     exact hfro
   ·
    go_wp2
    go_ret2
    exact ⟨by rw [← HK.out, List.drop_eq_nil_of_le (by omega)]; rfl, zqbf HB1.out HB1.out.size HB.out⟩


end Go.Proofs.Ytakemodmdhglnaa.PA
