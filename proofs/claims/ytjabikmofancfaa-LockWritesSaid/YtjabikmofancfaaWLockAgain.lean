/- What anybody holds can be taken again, and never less is held by that: the walk of the law LockAgain, and the plain law beneath it. No condition. -/

import Derived.Test.YtjabikmofancfaaP6
import Derived.Test.YtjabikmofancfaaLkLoops
namespace Go.Proofs.Ytjabikmofancfaa.H
open Go.RowKit Go.Proofs.YtjabikmofancfaaW.PrintWords Go.Proofs.YtjabikmofancfaaW.PrintLast Go.Proofs.Ytjabikmofancfaa.P
set_option linter.unusedVariables false
set_option linter.unusedSimpArgs false

theorem alive_is : waystationlaw07_alive.f = some true := by decide +kernel
theorem takeF_is (l : List S45) (tx key : Int) (w : Bool) (h : l.length ≤ 5000) : lock_Take.f l tx key w = some (takeP l tx key w) := by
  unfold lock_Take.f takeF
  rw [if_pos (by omega)]
theorem freeF_is (l : List S45) (tx : Int) (h : l.length ≤ 5000) : lock_Free.f l tx = some (keep (ofTx tx) l) := by
  unfold lock_Free.f freeF
  rw [if_pos (by omega)]
theorem holdsF_is (l : List S45) (tx key : Int) : lock_Holds.f l tx key = some (holds l tx key) := rfl
theorem rightF_is (l : List S45) : lock_Right.f l = some (right l) := rfl

theorem take_ok {l : List S45} (hl : RightP l) {tx key : Int} {w : Bool} (h : (takeP l tx key w).2 = 0) : mayB tx key = true ∧ l.any (confl tx key w) = false := by
  unfold takeP at h
  rw [if_neg (by rw [(right_iff l).2 hl]; simp)] at h
  cases hm : mayB tx key with
  | false => rw [hm, if_pos rfl] at h; simp at h
  | true =>
    rw [hm, if_neg (by simp)] at h
    cases hc : l.any (confl tx key w) with
    | true => rw [hc, if_pos rfl] at h; simp at h
    | false => exact ⟨rfl, rfl⟩

theorem cut_unique {l A B A' B' : List S45} {x : S45} (h : Cut l x A B) (k : Cut l x A' B') : A = A' ∧ B = B' := by
  refine List.append_inj (h.eq.symm.trans k.eq) ?_
  have := h.at_.symm.trans k.at_
  omega

theorem take_again {l : List S45} (hl : RightP l) {tx key : Int} {w : Bool} (h : (takeP l tx key w).2 = 0) :
    takeP (takeP l tx key w).1 tx key false = ((takeP l tx key w).1, 0) ∧ holds (takeP l tx key w).1 tx key = (if w then 2 else max (holds l tx key) 1) ∧ (takeP l tx key w).1.length ≤ l.length + 1 := by
  obtain ⟨hm, hc⟩ := take_ok hl h
  obtain ⟨hR, _⟩ := take_right hl hm w hc
  have main : ∀ A C e, (takeP l tx key w).1 = A ++ e :: C → Around (A ++ e :: C) e A C → e.f0 = key → e.f1 = tx → (∀ a ∈ A, a ∈ l) → (∀ c ∈ C, c ∈ l) → takeP (takeP l tx key w).1 tx key false = ((takeP l tx key w).1, 0) := by
    intro A C e hx har e0 e1 hA hC
    rw [hx] at hR ⊢
    have hc2 : (A ++ e :: C).any (confl tx key false) = false := by
      rw [List.any_eq_false]
      intro y hy
      have hyl : y = e ∨ y ∈ l := by
        rcases List.mem_append.1 hy with hy | hy
        · exact .inr (hA y hy)
        · rcases List.mem_cons.1 hy with rfl | hy
          · exact .inl rfl
          · exact .inr (hC y hy)
      unfold confl
      rcases hyl with rfl | hyl
      · simp [e1]
      · by_cases h0 : y.f0 = key
        · by_cases h1 : y.f1 = tx
          · simp [h1]
          · simp [(confl_at hc hyl h0 h1).2]
        · simp [h0]
    obtain ⟨A', B', hcut, hh⟩ := take_cut hR hm false hc2
    obtain ⟨rfl, rfl⟩ := cut_unique (around_cut har hR.two ⟨key, tx, false⟩ e0 e1) hcut
    rcases hh with ⟨hh, _, _⟩ | ⟨h', C', hb, h0, h1, ht, _, _⟩
    · exfalso
      replace hh : (ordI e ⟨key, tx, false⟩ == 0) = false := hh
      rw [(ord_eq e ⟨key, tx, false⟩).2 ⟨e0, e1⟩] at hh
      simp at hh
    · injection hb with hb1 hb2
      subst hb1 hb2
      rw [ht, show (⟨key, tx, e.f2 || false⟩ : S45) = e from by cases e; simp at *; exact ⟨e0.symm, e1.symm⟩]
  obtain ⟨A, B, hcut, ⟨hh, ht, har⟩ | ⟨y, C, rfl, e0, e1, ht, har, har0⟩⟩ := take_cut hl hm w hc
  · refine ⟨main A B _ (by rw [ht]) har rfl rfl (fun a ha => by rw [hcut.eq]; simp [ha]) (fun c hcm => by rw [hcut.eq]; simp [hcm]), ?_, by rw [ht, hcut.eq]; simp; omega⟩
    rw [ht]
    have := holds_around har
    rw [show holds (A ++ ⟨key, tx, w⟩ :: B) tx key = _ from this]
    have h0 : holds l tx key = 0 := by
      have : findH l tx key = none := by
        unfold findH
        rw [List.find?_eq_none]
        intro z hz
        rw [hcut.eq] at hz
        unfold isH
        rcases List.mem_append.1 hz with hz | hz
        · have := har.low z hz
          unfold Lt at this
          simp; intro h0; simp at this; omega
        · have := har.high z hz
          unfold Lt at this
          simp; intro h0; simp at this; omega
      unfold holds
      rw [this]
    rw [h0]
    cases w <;> rfl
  · refine ⟨main A C _ (by rw [ht]) har rfl rfl (fun a ha => by rw [hcut.eq]; simp [ha]) (fun c hcm => by rw [hcut.eq]; simp [hcm]), ?_, by rw [ht, hcut.eq]; simp⟩
    rw [ht]
    have := holds_around har
    rw [show holds (A ++ ⟨key, tx, y.f2 || w⟩ :: C) tx key = _ from this]
    have h2 := holds_around har0
    rw [e0, e1] at h2
    rw [h2]
    cases w <;> cases y.f2 <;> rfl

theorem LockAgain_pure (l : List S46) (x0 x1 x2 : Int) (x3 : Bool) : ∃ k, waystationlaw07_LockAgain.f k l x0 x1 x2 x3 = some true := by
  by_cases hl : (l.length : Int) > 100
  · refine ⟨1, ?_⟩
    unfold waystationlaw07_LockAgain.f
    rw [alive_is, Option.bind_some, if_pos rfl, if_pos hl]
    simp only [waystationlaw07_LockAgain.j0]
    rfl
  · obtain ⟨K, R, h1, h2⟩ := rright_is l (by omega)
    refine ⟨K + 500, ?_⟩
    unfold waystationlaw07_LockAgain.f
    rw [alive_is, Option.bind_some, if_pos rfl, if_neg hl, h1 _ (by omega), Option.bind_some]
    cases R with
    | false => simp only [waystationlaw07_LockAgain.j0]; rfl
    | true =>
      have hR := h2.1 rfl
      have hlen : (l.map toL).length = l.length := by simp
      simp only [waystationlaw07_LockAgain.j0, waystationlaw07_LockAgain.j1]
      rw [if_neg (by simp), theirs_is l (by omega) _ (by omega), Option.bind_some, takeF_is _ _ _ _ (by omega), Option.bind_some]
      by_cases h0 : (takeP (l.map toL) x1 x2 x3).2 = 0
      · obtain ⟨ha, hb, hc⟩ := take_again hR h0
        rw [if_pos h0, takeF_is _ _ _ _ (by omega), Option.bind_some, ha, rholds_is l _ _ (by omega) _ (by omega), Option.bind_some]
        simp only [ours_is _ (show (takeP (l.map toL) x1 x2 x3).1.length ≤ 5864062014805 by omega) (K + 498) (by omega), Option.bind_some, same_is _ (show ((takeP (l.map toL) x1 x2 x3).1.map toR).length ≤ 5864062014805 by simp; omega) (K + 498) (by simp; omega), holdsF_is, hb]
        cases x3 with
        | true => simp
        | false => simp [mx]; omega
      · rw [if_neg h0]

theorem LockAgain_walk (A0 : Option Addr) (c0 : Nat) (l0 : List S46) {w : World} (hr0 : Kd.C k46 w A0 l0.length l0) (hc0 : l0.length ≤ c0) (hQ : ∀ y ∈ l0, (Lit.int .u8 (y.f0, y.f1, y.f2).1).wf = true ∧ (Lit.int .i64 (y.f0, y.f1, y.f2).2.1).wf = true ∧ True)
    (x0 x1 x2 : Int) (x3 : Bool) (hQ1 : (Lit.int .u8 (x0, x1, x2, x3).1).wf = true ∧ (Lit.int .i64 (x0, x1, x2, x3).2.1).wf = true ∧ (Lit.int .u8 (x0, x1, x2, x3).2.2.1).wf = true ∧ True) :
    Calls Try.prog 3 #[.slice A0 l0.length c0, .agg #[.int .u8 x0, .int .i64 x1, .int .u8 x2, .bool x3]] w fun e w' => e = .returned (.bool true) ∧ Below w.heap.size w w' := by
  obtain ⟨k, hk⟩ := LockAgain_pure l0 x0 x1 x2 x3
  exact waystationlaw07_LockAgain.calls k A0 c0 l0 x0 x1 x2 x3 true w hr0 hc0 hk
end Go.Proofs.Ytjabikmofancfaa.H
