/- Texts SCBack, STop: an evaluator of the model's code, proved sound, and what the program's functions do, for all inputs. -/
import Derived.Test.YtmhkinlckjjpoaaMS4
namespace Go.AK
open Go Go.RowKit Go.Proofs
set_option linter.unusedVariables false
set_option maxRecDepth 100000
theorem enc_short {F : Fr} (hm : F.may) (ack : Bool) {n : Nat} (hn : n < (F.encL ack).length) : dec ((F.encL ack).take n) = (Fr0, (n : Int), 13) := by
  rw [dec_lv (isLv_take (enc_lv hm ack) n)]
  exact dec_short hm _ 13 (by rw [F.enc_len] at hn; exact hn)
set_option maxHeartbeats 4000000 in
theorem lawBack (F : Fr) (hF : F.ok) (B : List Int) (left : Int) (hleft : -9223372036854775808 ≤ left ∧ left ≤ 9223372036854775807) : ACall Try.prog 4 [F.av, .rs (ints B) 0 1 B.length, .i .i64 left] [] fun r H => r = .ret (.b true) ∧ H = [] := by
  refine ACall.gh ?_
  refine ACall.enter tok false Try.func4 rfl rfl rfl (AW_sound (ip := false) tok _ _ _ _ ?_)
  conv => whnf
  by_cases g : (B.length : Int) > 40
  · refine acond_t (decide_eq_true g) ?_
    conv => whnf
    refine ACall.frameH [] [] rfl (args' := []) (Hc := []) rfl rfl awake6_spec ?_
    rintro r H ⟨rfl, rfl⟩
    refine ⟨.inl rfl, [.c F.cells], rfl, ?_⟩
    conv => whnf
    exact GhR.sel [] rfl (GhR.of ⟨rfl, rfl⟩)
  refine acond_f (decide_eq_false g) ?_
  conv => whnf
  refine ⟨by omega, ?_⟩
  conv => whnf
  generalize hack : (left.tmod 2 == 0) = ack
  refine ACall.frameH [] [] rfl (args' := [F.av, .b ack]) (Hc := []) rfl rfl (encode_spec F hF ack) ?_
  rintro r H (⟨hno, rfl, rfl⟩ | ⟨hm, c, hc, rfl, rfl⟩)
  · refine ⟨.inl rfl, [.c F.cells], rfl, ?_⟩
    conv => whnf
    have hchk := check_spec F hF
    rw [Fr.bad hno] at hchk
    refine ACall.frameH [] [] rfl (args' := [F.av]) (Hc := []) rfl rfl hchk ?_
    rintro r H ⟨rfl, rfl⟩
    refine ⟨.inl rfl, [.c F.cells], rfl, ?_⟩
    conv => whnf
    refine ACall.frameH [] [] rfl (args' := []) (Hc := []) rfl rfl awake6_spec ?_
    rintro r H ⟨rfl, rfl⟩
    refine ⟨.inl rfl, [.c F.cells], rfl, ?_⟩
    conv => whnf
    exact GhR.sel [] rfl (GhR.of ⟨rfl, rfl⟩)
  have hle := enc_le hm ack
  have ht1 := enc_dec hm hF ack B
  have ht2 := fun n => enc_short (n := n) hm ack
  generalize F.encL ack = E at hc hle ht1 ht2
  refine ⟨.inl rfl, [.c F.cells, .c (ints E)], (by show [_, Blk.c (subs _ (ints _))] = _; first | (rw [subs_nums]; done) | (rw [subs_nums]; rfl)), ?_⟩
  conv => whnf
  refine ⟨by show 0 ≤ (0 : Nat); omega, ?_⟩
  conv => whnf
  refine ⟨by show 0 + E.length * 1 ≤ (ints E).length; rw [nums_length]; omega, ?_⟩
  conv => whnf
  have hE1 : List.take (E.length * 1) (List.drop 0 (ints E)) = ints E := by rw [List.drop_zero, Nat.mul_one, List.take_of_length_le (by rw [nums_length]; omega)]
  refine ⟨by show ones (List.take (E.length * 1) (List.drop 0 (ints E))) = true; rw [hE1]; exact ones_nums _ _, by (try dsimp only); omega, by omega, fun g1 hg1 => ?_⟩
  conv => whnf
  refine ⟨by show 0 + (0 + E.length) * 1 ≤ List.length ([] ++ List.take (E.length * 1) (List.drop 0 (ints E))); rw [hE1, List.nil_append, nums_length]; omega, ?_⟩
  conv => whnf
  refine ⟨by show 0 + B.length * 1 ≤ (ints B).length; rw [nums_length]; omega, ?_⟩
  conv => whnf
  have hB1 : List.take (B.length * 1) (List.drop 0 (ints B)) = ints B := by rw [List.drop_zero, Nat.mul_one, List.take_of_length_le (by rw [nums_length]; omega)]
  refine ⟨by show ones (List.take (B.length * 1) (List.drop 0 (ints B))) = true; rw [hB1]; exact ones_nums _ _, by (try dsimp only); omega, by omega, fun g2 hg2 => ?_⟩
  conv => whnf
  have hEB : List.take ((0 + E.length) * 1) (List.drop 0 ([] ++ List.take (E.length * 1) (List.drop 0 (ints E)))) ++ List.take (B.length * 1) (List.drop 0 (ints B)) = ints (E ++ B) := by
    rw [hE1, hB1, List.nil_append, List.drop_zero, List.take_of_length_le (by rw [nums_length]; omega), ← nums_append]
  have h3 := decode_spec (E ++ B) (by rw [List.length_append]; omega)
  rw [ht1] at h3
  have hlEB : (E ++ B).length = 0 + E.length + B.length := by rw [List.length_append]; omega
  refine ACall.frameH [] [4] rfl (args' := [.rs (ints (E ++ B)) 0 1 (E ++ B).length]) (Hc := []) (by
    show [AV.rs (subs _ (List.take ((0 + E.length) * 1) (List.drop 0 ([] ++ List.take (E.length * 1) (List.drop 0 (ints E)))) ++ List.take (B.length * 1) (List.drop 0 (ints B)))) 0 1 (0 + E.length + B.length)] = _
    rw [hEB, subs_nums, hlEB]) rfl h3 ?_
  rintro r H ⟨rfl, rfl⟩
  refine ⟨.inr ⟨rfl, rfl⟩, [.c F.cells, .c (ints E), .dead, .dead, .c (ints (E ++ B))], (by show [_, _, _, _, Blk.c (List.take ((0 + E.length) * 1) (List.drop 0 ([] ++ List.take (E.length * 1) (List.drop 0 (ints E)))) ++ List.take (B.length * 1) (List.drop 0 (ints B)))] = _; rw [hEB]), ?_⟩
  conv => whnf
  refine ⟨by show 0 + 12 ≤ 12; omega, ?_⟩
  conv => whnf
  refine ⟨flatFrame, ?_⟩
  conv => whnf
  have hEE : ((E.length : Int) != (E.length : Int)) = false := bne_self_eq_false _
  repeat (first | (refine acond_f (frDiff F) ?_; conv => whnf) | (refine acond_f hEE ?_; conv => whnf))
  by_cases hl0 : left < 0
  · repeat (refine acond_t (decide_eq_true hl0) ?_; conv => whnf)
    refine ACall.frameH [] [] rfl (args' := []) (Hc := []) rfl rfl awake6_spec ?_
    rintro r H ⟨rfl, rfl⟩
    refine ⟨.inl rfl, [.c F.cells, .c (ints E), .dead, .dead, .c (ints (E ++ B)), .c F.cells], rfl, ?_⟩
    conv => whnf
    exact GhR.sel [] rfl (GhR.of ⟨rfl, rfl⟩)
  repeat (refine acond_f (decide_eq_false hl0) ?_; conv => whnf)
  by_cases hl1 : left ≥ (E.length : Int)
  · repeat (refine acond_t (decide_eq_true hl1) ?_; conv => whnf)
    refine ACall.frameH [] [] rfl (args' := []) (Hc := []) rfl rfl awake6_spec ?_
    rintro r H ⟨rfl, rfl⟩
    refine ⟨.inl rfl, [.c F.cells, .c (ints E), .dead, .dead, .c (ints (E ++ B)), .c F.cells], rfl, ?_⟩
    conv => whnf
    exact GhR.sel [] rfl (GhR.of ⟨rfl, rfl⟩)
  repeat (refine acond_f (decide_eq_false hl1) ?_; conv => whnf)
  obtain ⟨n, rfl⟩ : ∃ n : Nat, left = n := ⟨left.toNat, by omega⟩
  refine ⟨by omega, ?_⟩
  conv => whnf
  have h4 := decodeCut_spec E n (by omega) (by omega)
  rw [ht2 n (by omega)] at h4
  refine ACall.frameH [] [1] rfl (args' := [.rs (ints E) 0 1 n]) (Hc := []) (by show [AV.rs (subs _ (ints _)) _ _ _] = _; first | (rw [subs_nums]; done) | (rw [subs_nums]; rfl)) rfl h4 ?_
  rintro r H ⟨rfl, rfl⟩
  refine ⟨.inr ⟨rfl, rfl⟩, [.c F.cells, .c (ints E), .dead, .dead, .c (ints (E ++ B)), .c F.cells], rfl, ?_⟩
  conv => whnf
  refine ⟨by show 0 + 12 ≤ 12; omega, ?_⟩
  conv => whnf
  refine ⟨flatFrame, ?_⟩
  conv => whnf
  have hnn : (((n : Nat) : Int) == ((n : Nat) : Int)) = true := beq_self_eq_true _
  repeat (refine acond_t hnn ?_; conv => whnf)
  refine ACall.frameH [] [] rfl (args' := []) (Hc := []) rfl rfl awake6_spec ?_
  rintro r H ⟨rfl, rfl⟩
  refine ⟨.inl rfl, [.c F.cells, .c (ints E), .dead, .dead, .c (ints (E ++ B)), .c F.cells, .c Fr0.cells], rfl, ?_⟩
  conv => whnf
  repeat (refine acond_t hnn ?_; conv => whnf)
  exact GhR.sel [] rfl (GhR.of ⟨rfl, rfl⟩)
end Go.AK
namespace Go.AK
open Go Go.RowKit Go.Proofs
set_option linter.unusedVariables false
set_option maxRecDepth 100000
theorem okT_ints : ∀ fuel, okT T fuel 22 = true
  | 0 => rfl
  | 1 => rfl
  | n + 2 => rfl
theorem WT_i64 : ∀ {n : Nat} {ys : List AV}, WT T n 3 ys → ∃ m, ys = [.i .i64 m] ∧ (Lit.int .i64 m).wf = true
  | 0, _, h => h.elim
  | n + 1, ys, h => h
theorem WT_ints : ∀ {fuel : Nat} {xs : List AV}, WT T fuel 22 xs → ∃ L : List Int, xs = [.rs (ints L) 0 1 L.length] ∧ L.length ≤ maxLen ∧ ∀ x ∈ L, (Lit.int .i64 x).wf = true
  | 0, _, h => h.elim
  | n + 1, xs, h => by
    obtain ⟨m, cs, hx, hm, hc⟩ := (show ∃ m cs, xs = [AV.rs cs 0 1 m] ∧ m ≤ maxLen ∧ WTs (WT T n) (List.replicate m 3) cs from h)
    obtain ⟨L, hL, hl, hw⟩ := WTs_ints (fun ys => WT_i64) m cs hc
    subst hL
    exact ⟨L, by rw [hx, hl], by omega, hw⟩
theorem okT_frame : ∀ fuel, okT T fuel 26 = true
  | 0 => rfl
  | 1 => rfl
  | 2 => rfl
  | n + 3 => rfl
theorem okT_frames : ∀ fuel, okT T fuel 36 = true
  | 0 => rfl
  | 1 => rfl
  | 2 => rfl
  | 3 => rfl
  | n + 4 => rfl
theorem i64_in {n : Int} (h : (Lit.int .i64 n).wf = true) : -9223372036854775808 ≤ n ∧ n ≤ 9223372036854775807 := by
  have := Bool.and_eq_true_iff.1 (show (decide (IntKind.min .i64 ≤ n) && decide (n ≤ IntKind.max .i64)) = true from h)
  exact ⟨of_decide_eq_true this.1, of_decide_eq_true this.2⟩
theorem u8_in {n : Int} (h : (Lit.int .u8 n).wf = true) : 0 ≤ n ∧ n < 256 := by
  have := Bool.and_eq_true_iff.1 (show (decide (IntKind.min .u8 ≤ n) && decide (n ≤ IntKind.max .u8)) = true from h)
  have h1 : (0 : Int) ≤ n := of_decide_eq_true this.1
  have h2 : n ≤ (255 : Int) := of_decide_eq_true this.2
  omega
theorem WT_frame : ∀ {fuel : Nat} {xs : List AV}, WT T fuel 26 xs → ∃ F : Fr, xs = F.cells ∧ F.ok
  | 0, _, h => h.elim
  | 1, xs, h => by
    obtain ⟨ys, zs, _, h1, _⟩ := (show WTs (WT T 0) [3, 4, 4, 3, 24] xs from h)
    exact h1.elim
  | 2, xs, h => by
    obtain ⟨y0, z0, rfl, h0, h⟩ := (show WTs (WT T 1) [3, 4, 4, 3, 24] xs from h)
    obtain ⟨y1, z1, rfl, h1, h⟩ := h
    obtain ⟨y2, z2, rfl, h2, h⟩ := h
    obtain ⟨y3, z3, rfl, h3, h⟩ := h
    obtain ⟨y4, z4, rfl, h4, h⟩ := h
    obtain ⟨a, b, _, h5, _⟩ := (show WTs (WT T 0) (List.replicate 8 5) y4 from h4)
    exact h5.elim
  | n + 3, xs, h => by
    obtain ⟨y0, z0, rfl, h0, h⟩ := (show WTs (WT T (n + 2)) [3, 4, 4, 3, 24] xs from h)
    obtain ⟨y1, z1, rfl, h1, h⟩ := h
    obtain ⟨y2, z2, rfl, h2, h⟩ := h
    obtain ⟨y3, z3, rfl, h3, h⟩ := h
    obtain ⟨y4, z4, rfl, h4, h⟩ := h
    obtain rfl := (show z4 = [] from h)
    obtain ⟨id, rfl, w0⟩ := (show ∃ m, y0 = [.i .i64 m] ∧ (Lit.int .i64 m).wf = true from h0)
    obtain ⟨ext, rfl⟩ := (show ∃ b, y1 = [.b b] from h1)
    obtain ⟨rtr, rfl⟩ := (show ∃ b, y2 = [.b b] from h2)
    obtain ⟨len, rfl, w3⟩ := (show ∃ m, y3 = [.i .i64 m] ∧ (Lit.int .i64 m).wf = true from h3)
    obtain ⟨L, hL, hl, hw⟩ := WTs_ints (T := T) (n := n + 1) (e := 5) (k := .u8) (fun ys hy => (show ∃ m, ys = [.i .u8 m] ∧ (Lit.int .u8 m).wf = true from hy)) 8 y4 (show WTs (WT T (n + 1)) (List.replicate 8 5) y4 from h4)
    subst hL
    obtain ⟨b0, b1, b2, b3, b4, b5, b6, b7, rfl⟩ : ∃ b0 b1 b2 b3 b4 b5 b6 b7, L = [b0, b1, b2, b3, b4, b5, b6, b7] := by
      match L, hl with
      | [a, b, c, d, e, f, g, h], _ => exact ⟨a, b, c, d, e, f, g, h, rfl⟩
    exact ⟨⟨id, ext, rtr, len, b0, b1, b2, b3, b4, b5, b6, b7⟩, rfl, i64_in w0, i64_in w3, fun x hx => u8_in (hw x hx)⟩
theorem WTs_frames {n : Nat} : ∀ (m : Nat) (cs : List AV), WTs (WT T n) (List.replicate m 26) cs → ∃ L : List Fr, cs = frs L ∧ L.length = m ∧ ∀ F ∈ L, F.ok
  | 0, cs, hc => ⟨[], (show cs = [] from hc), rfl, fun x hx => by cases hx⟩
  | m + 1, cs, hc => by
    rw [List.replicate_succ] at hc
    obtain ⟨ys, zs, rfl, h1, h2⟩ := hc
    obtain ⟨F, rfl, hF⟩ := WT_frame h1
    obtain ⟨L, rfl, hl, hL⟩ := WTs_frames m zs h2
    refine ⟨F :: L, rfl, by simp [hl], fun y hy => ?_⟩
    rcases List.mem_cons.1 hy with rfl | hy
    · exact hF
    · exact hL y hy
theorem WT_frames : ∀ {fuel : Nat} {xs : List AV}, WT T fuel 36 xs → ∃ l : List Fr, xs = [.rs (frs l) 0 12 l.length] ∧ l.length ≤ maxLen ∧ ∀ F ∈ l, F.ok
  | 0, _, h => h.elim
  | n + 1, xs, h => by
    obtain ⟨m, cs, hx, hm, hc⟩ := (show ∃ m cs, xs = [AV.rs cs 0 12 m] ∧ m ≤ maxLen ∧ WTs (WT T n) (List.replicate m 26) cs from h)
    obtain ⟨L, hL, hl, hw⟩ := WTs_frames m cs hc
    subst hL
    exact ⟨L, by rw [hx, hl], by omega, hw⟩
end Go.AK
