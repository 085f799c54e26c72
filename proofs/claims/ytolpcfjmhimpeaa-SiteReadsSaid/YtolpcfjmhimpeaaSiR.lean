/- Two sites beside one another; what else the laws of a site ask. -/

import Derived.Test.YtolpcfjmhimpeaaM4
namespace Go.Proofs.Ytolpcfjmhimpeaa.HS
open Go.RowKit Go.Proofs.YtolpcfjmhimpeaaW.PrintWords Go.Proofs.YtolpcfjmhimpeaaW.PrintLast Go.Proofs.YtolpcfjmhimpeaaW.PrintMore Go.Proofs.Ytolpcfjmhimpeaa.P
open Go.Maps (Keyed)
open Go.ChangeMaps Go.MapKept
set_option linter.unusedVariables false
set_option linter.unusedSimpArgs false

theorem wf8 {y : Int} (h : (Lit.int .u8 y).wf = true) : 0 ≤ y ∧ y < 256 := by
  have h2 : IntKind.u8.min ≤ y ∧ y ≤ IntKind.u8.max := by simpa [Lit.wf] using h
  exact ⟨h2.1, Int.lt_of_le_of_lt h2.2 (by decide)⟩
theorem part_own {w W : World} {S : Nat → Prop} {b : Nat} {st : PSite} (h : Own w W S b st) (hs : Small st) (tx : Int) (ht' : (litI tx).wf = true) : Calls Try.prog 16 #[.pointer (some ⟨b, 0, none⟩), .int .i64 tx] W fun e w' =>
    ∃ n A c o, e = .returned (.tuple #[.agg #[.int .i64 ((st.parts tx).getD zeroP).st, .slice A n c, .bool ((st.parts tx).getD zeroP).loc, .int .i64 o], .bool (st.parts tx).isSome]) ∧ Below W.heap.size W w' := by
  have hpa : ((st.parts tx).getD zeroP).adds.length ≤ 1000000000 := by
    cases hp : st.parts tx with
    | none => simp [zeroP]
    | some p => exact hs.parts tx p hp
  refine (part_calls h.1 tx ht' hpa).mono ?_
  rintro e w' ⟨v, rfl, hv, hb⟩
  obtain ⟨A1, c1, rfl⟩ := Kd.R_slice hv
  exact ⟨_, _, _, _, rfl, hb⟩
theorem litI_wf {tx : Int} (ht : 0 ≤ tx ∧ tx < 1000) : (litI tx).wf = true := by
  have : IntKind.i64.min ≤ tx ∧ tx ≤ IntKind.i64.max := ⟨Int.le_trans (by decide) ht.1, Int.le_trans (Int.le_of_lt ht.2) (by decide)⟩
  simpa [litI, Lit.wf] using this
theorem log_own {w W : World} {S : Nat → Prop} {b : Nat} {st : PSite} (h : Own w W S b st) (hs : Small st) : Calls Try.prog 21 #[.pointer (some ⟨b, 0, none⟩)] W fun e w' =>
    ∃ A c, e = .returned (.slice A st.log.length c) ∧ st.log.length ≤ c ∧ Kd.C k35 w' A st.log.length st.log ∧ Below W.heap.size W w' := by
  refine (log_calls h.1 hs.log).mono ?_
  rintro e w4 ⟨v, rfl, hv, hb2⟩
  obtain ⟨A1, c1, rfl⟩ := Kd.R_slice hv
  exact ⟨_, _, rfl, (Kd.R_reads' hv).2.1, (Kd.R_reads' hv).2.2, hb2⟩
theorem get_own {w W : World} {S : Nat → Prop} {b : Nat} {st : PSite} (h : Own w W S b st) (hs : Small st) (key : Int) : Calls Try.prog 20 #[.pointer (some ⟨b, 0, none⟩), .int .u8 key] W fun e w' =>
    e = .returned (.int .i64 (getL st.led key)) ∧ Below W.heap.size W w' := get_calls h.1 key hs.led
theorem Own.base {w0 w1 W : World} {S : Nat → Prop} {b : Nat} {st : PSite} (h : Own w1 W S b st) (hb : Below w0.heap.size w0 w1) : Own w0 W S b st := ⟨h.1, fun k hk => Nat.le_trans hb.size (h.2.1 k hk), below_then hb hb.size h.2.2⟩
/-- A call of one site, beside another. -/
theorem do_two {w W : World} {S T : Nat → Prop} {b c : Nat} {st st2 : PSite} (h : Own w W S b st) (h2 : Own w W T c st2) (hd : ∀ k, T k → ¬ S k) (hs : Small st) (k tx key nn : Int) : Calls Try.prog 14 #[.pointer (some ⟨b, 0, none⟩), .agg #[.int .i64 k, .int .i64 tx, .int .u8 key, .int .i64 nn]] W fun e w' =>
    e = .returned (.tuple #[.int .i64 (doS st ⟨k, tx, key, nn⟩).2.1, .int .i64 (doS st ⟨k, tx, key, nn⟩).2.2]) ∧ ∃ S', Own w w' S' b (doS st ⟨k, tx, key, nn⟩).1 ∧ Own w w' T c st2 ∧ (∀ k, T k → ¬ S' k) ∧ (∀ k, S' k → ¬ T k) ∧ (∀ k, S' k → S k ∨ W.heap.size ≤ k) ∧ Chg W w' S := by
  refine (do_own h hs k tx key nn).mono ?_
  rintro e w' ⟨rfl, S', hO, hS, hC⟩
  have hlt := h2.1.lt
  have hd2 : ∀ k, T k → ¬ S' k := fun k hT hs => (hS k hs).elim (hd k hT) (fun hk => by have := hlt k hT; omega)
  obtain ⟨vl, vk, vg, m, n, D, h3, hn⟩ := h2.1
  exact ⟨rfl, S', hO, ⟨⟨vl, vk, vg, m, n, D, h3.chg hC hd, hn⟩, h2.2.1, h2.bel.trans (hC.below h2.bel.size h.2.1)⟩, hd2, fun k hs hT => hd2 k hT hs, hS, hC⟩
theorem Chg.keep {W W' : World} {S : Nat → Prop} (h : Chg W W' S) {k : Nat} {o : Obj} (hk : W.heap[k]? = some o) (hn : ¬ S k) : W'.heap[k]? = some o := (h.kp k (heap_lt hk) hn).trans hk
end Go.Proofs.Ytolpcfjmhimpeaa.HS
