/- What always holds of a site that was played. -/

import Derived.Test.YtolpcfjmhimpeaaLedQ
namespace Go.Proofs.Ytolpcfjmhimpeaa.HS
open Go.RowKit Go.Proofs.YtolpcfjmhimpeaaW.PrintWords Go.Proofs.YtolpcfjmhimpeaaW.PrintLast Go.Proofs.YtolpcfjmhimpeaaW.PrintMore Go.Proofs.Ytolpcfjmhimpeaa.P
set_option linter.unusedVariables false
set_option linter.unusedSimpArgs false

/-! Locks. -/
/-- Each hold stays, and is never less. -/
def More (l l' : List S119) : Prop := ∀ h ∈ l, ∃ h' ∈ l', h'.f0 = h.f0 ∧ h'.f1 = h.f1 ∧ (h.f2 = true → h'.f2 = true)
theorem take_more {l : List S119} {tx key : Int} {w : Bool} (h : (H.takeP l tx key w).2 = 0) : H.RightP (H.takeP l tx key w).1 ∧ H.mayB tx key = true ∧ More l (H.takeP l tx key w).1 ∧ ∃ e ∈ (H.takeP l tx key w).1, e.f0 = key ∧ e.f1 = tx ∧ (w = true → e.f2 = true) := by
  have hR := H.take_rightP h
  obtain ⟨hm, hc⟩ := H.take_ok hR h
  refine ⟨(H.take_right hR hm w hc).1, hm, ?_⟩
  obtain ⟨A, B, hcut, ⟨hh, ht, har⟩ | ⟨y, C, rfl, e0, e1, ht, har, har0⟩⟩ := H.take_cut hR hm w hc
  · rw [ht]
    refine ⟨fun h hm => ?_, ⟨key, tx, w⟩, by simp, rfl, rfl, fun h => h⟩
    rw [hcut.eq] at hm
    rcases List.mem_append.1 hm with hm | hm
    · exact ⟨h, by simp [hm], rfl, rfl, fun h => h⟩
    · exact ⟨h, by simp [hm], rfl, rfl, fun h => h⟩
  · rw [ht]
    refine ⟨fun h hm => ?_, ⟨key, tx, y.f2 || w⟩, by simp, rfl, rfl, fun h => by simp [h]⟩
    rw [hcut.eq] at hm
    rcases List.mem_append.1 hm with hm | hm
    · exact ⟨h, by simp [hm], rfl, rfl, fun h => h⟩
    · rcases List.mem_cons.1 hm with rfl | hm
      · exact ⟨⟨key, tx, h.f2 || w⟩, by simp, e0.symm, e1.symm, fun h => by simp [h]⟩
      · exact ⟨h, by simp [hm], rfl, rfl, fun h => h⟩
theorem free_rightP {l : List S119} (hR : H.RightP l) (tx : Int) : H.RightP (freeP l tx) :=
  ⟨fun h hm => hR.may h (List.mem_filter.1 hm).1, hR.two.sublist List.filter_sublist⟩
theorem free_mem {l : List S119} {tx : Int} {h : S119} (hm : h ∈ l) (hne : h.f1 ≠ tx) : h ∈ freeP l tx := by
  refine List.mem_filter.2 ⟨hm, ?_⟩
  unfold H.ofTx
  simpa using hne

/-! Parts. -/
theorem right_el {p : PPart} (h : p.right = true) : p.adds.any HD.wideB = false ∧ p.adds.length ≤ 50 ∧ (p.st = 3 → p.out = 1 ∨ p.out = 2) ∧ (p.st ≠ 3 → p.out = 0 ∧ (p.loc = true → p.st = 1)) ∧ 0 ≤ p.st ∧ p.st ≤ 3 := by
  unfold PPart.right HD.prightB at h
  split at h
  · cases h
  · rename_i h1
    simp only [Bool.or_eq_true, decide_eq_true_eq, not_or] at h1
    obtain ⟨⟨⟨h1, h2⟩, h3⟩, h4⟩ := h1
    refine ⟨by simpa using h4, by omega, fun h5 => ?_, fun h5 => ?_, by omega, by omega⟩
    · rw [if_pos (by simpa using h5)] at h
      simpa using h
    · rw [if_neg (by simpa using h5)] at h
      simp only [Bool.and_eq_true, Bool.or_eq_true, Bool.not_eq_true', beq_iff_eq] at h
      refine ⟨h.1, fun h6 => ?_⟩
      rcases h.2 with h7 | h7
      · rw [h6] at h7; cases h7
      · exact h7
theorem right_mk {p : PPart} (h1 : p.adds.any HD.wideB = false) (h2 : p.adds.length ≤ 50) (h3 : p.st = 3 → p.out = 1 ∨ p.out = 2) (h4 : p.st ≠ 3 → p.out = 0 ∧ (p.loc = true → p.st = 1)) (h5 : 0 ≤ p.st) (h6 : p.st ≤ 3) : p.right = true := by
  unfold PPart.right HD.prightB
  rw [if_neg (by simp only [Bool.or_eq_true, decide_eq_true_eq, not_or, h1]; refine ⟨⟨⟨by omega, by omega⟩, by omega⟩, by simp⟩)]
  by_cases h7 : p.st = 3
  · rw [if_pos (by simpa using h7)]
    rcases h3 h7 with h | h <;> simp [h]
  · rw [if_neg (by simpa using h7)]
    obtain ⟨h8, h9⟩ := h4 h7
    cases hl : p.loc with
    | false => simp [h8]
    | true => simp [h8, h9 hl]
theorem addP_ok {p : PPart} {x : S73} (h : (addP p x).2 = 0) : p.right = true ∧ x.f0 < 64 ∧ p.st = 0 ∧ p.adds.length < 50 ∧ (addP p x).1 = { p with adds := p.adds ++ [x] } := by
  unfold addP at h ⊢
  split at h
  · simp at h
  · rename_i h9
    rw [if_neg h9]
    split at h
    · simp at h
    · rename_i h10
      rw [if_neg h10]
      split at h
      · simp at h
      · rename_i h11
        rw [if_neg h11]
        refine ⟨?_, ?_, by simpa using h10, by omega, rfl⟩
        · cases hq : p.right with
          | true => rfl
          | false => exact absurd (.inl hq) h9
        · have : ¬ 64 ≤ x.f0 := fun hk => h9 (.inr hk)
          omega

/-! What holds. -/
structure Inv (s : PSite) : Prop where
  led : HD.LP s.led
  locks : H.RightP s.locks
  parts : ∀ i p, s.parts i = some p → p.right = true
  hold : ∀ i p, s.parts i = some p → (p.st = 0 ∨ p.st = 1) → p.loc = false → ∀ d ∈ p.adds, ∃ h ∈ s.locks, h.f0 = d.f0 ∧ h.f1 = i ∧ h.f2 = true
theorem Inv.new : Inv newS := ⟨⟨by simp [newS], List.Pairwise.nil⟩, ⟨by simp [newS], List.Pairwise.nil⟩, fun i p h => (by cases h), fun i p h => (by cases h)⟩
theorem zero_right : zeroP.right = true := by decide
theorem Inv.log {s : PSite} (h : Inv s) (l : List S35) : Inv { s with log := l } := ⟨h.led, h.locks, h.parts, h.hold⟩
/-- A part turns, and locks are more. -/
theorem Inv.turn {s : PSite} (h : Inv s) {tx : Int} {p : PPart} {l : List S119} (hp : p.right = true) (hl : H.RightP l) (hm : More s.locks l) (hh : (p.st = 0 ∨ p.st = 1) → p.loc = false → ∀ d ∈ p.adds, ∃ h ∈ l, h.f0 = d.f0 ∧ h.f1 = tx ∧ h.f2 = true) : Inv { s with parts := upd s.parts tx p, locks := l } := by
  refine ⟨h.led, hl, fun i q hq => ?_, fun i q hq h0 h1 d hd => ?_⟩
  · simp only [upd] at hq
    split at hq
    · injection hq with hq; rw [← hq]; exact hp
    · exact h.parts i q hq
  · simp only [upd] at hq
    split at hq
    · rename_i e
      injection hq with hq
      rw [e]
      rw [← hq] at h0 h1 hd
      exact hh h0 h1 d hd
    · obtain ⟨e, he, e0, e1, e2⟩ := h.hold i q hq h0 h1 d hd
      obtain ⟨e', he', k0, k1, k2⟩ := hm e he
      exact ⟨e', he', by omega, by omega, k2 e2⟩
/-- A part ends, and its locks go. -/
theorem Inv.ends {s : PSite} (h : Inv s) {tx : Int} {p : PPart} {g : List S73} (hp : p.right = true) (hg : HD.LP g) (hh : (p.st = 0 ∨ p.st = 1) → p.loc = false → False) : Inv { s with parts := upd s.parts tx p, led := g, locks := freeP s.locks tx } := by
  refine ⟨hg, free_rightP h.locks tx, fun i q hq => ?_, fun i q hq h0 h1 d hd => ?_⟩
  · simp only [upd] at hq
    split at hq
    · injection hq with hq; rw [← hq]; exact hp
    · exact h.parts i q hq
  · simp only [upd] at hq
    split at hq
    · injection hq with hq
      rw [← hq] at h0 h1
      exact absurd (hh h0 h1) id
    · rename_i hne
      obtain ⟨e, he, e0, e1, e2⟩ := h.hold i q hq h0 h1 d hd
      exact ⟨e, free_mem he (by omega), e0, e1, e2⟩
theorem More.refl (l : List S119) : More l l := fun h hm => ⟨h, hm, rfl, rfl, fun h => h⟩
theorem Inv.turnL {s : PSite} (h : Inv s) {tx : Int} {p : PPart} {g : List S73} (hp : p.right = true) (hg : HD.LP g) (hh : (p.st = 0 ∨ p.st = 1) → p.loc = false → ∀ d ∈ p.adds, ∃ h ∈ s.locks, h.f0 = d.f0 ∧ h.f1 = tx ∧ h.f2 = true) : Inv { s with parts := upd s.parts tx p, led := g } := by
  have := h.turn hp h.locks (More.refl _) hh
  exact ⟨hg, this.locks, this.parts, this.hold⟩
theorem Inv.lock {s : PSite} (h : Inv s) {l : List S119} (hl : H.RightP l) (hm : More s.locks l) : Inv { s with locks := l } := by
  refine ⟨h.led, hl, h.parts, fun i q hq h0 h1 d hd => ?_⟩
  obtain ⟨e, he, e0, e1, e2⟩ := h.hold i q hq h0 h1 d hd
  obtain ⟨e', he', k0, k1, k2⟩ := hm e he
  exact ⟨e', he', by omega, by omega, k2 e2⟩

/-! What was done. -/
theorem doS_ok {s : PSite} {r : S35} (h : (doS s r).2.2 = 0) : (1 ≤ r.f0 ∧ r.f0 ≤ 6 ∧ 0 ≤ r.f1 ∧ r.f1 < 1000) ∧ ((s.parts r.f1).isSome = false → r.f0 = 1) ∧ ((s.parts r.f1).isSome = true → r.f0 ≠ 1) ∧ (stepS s ((s.parts r.f1).getD zeroP) r).2.2 = 0 ∧
    doS s r = ({ (stepS s ((s.parts r.f1).getD zeroP) r).1 with log := (stepS s ((s.parts r.f1).getD zeroP) r).1.log ++ [r] }, (stepS s ((s.parts r.f1).getD zeroP) r).2.1, 0) := by
  unfold doS at h ⊢
  split at h
  · simp at h
  · rename_i h1
    rw [if_neg h1]
    split at h
    · simp at h
    · rename_i h2
      rw [if_neg h2]
      split at h
      · simp at h
      · rename_i h3
        rw [if_neg h3]
        split at h
        · rename_i h4; exact absurd h h4
        · rename_i h4
          rw [if_neg h4]
          refine ⟨by omega, fun h5 => ?_, fun h5 h6 => h2 ⟨h5, h6⟩, by simpa using h4, rfl⟩
          rcases Int.lt_trichotomy r.f0 1 with h6 | h6 | h6
          · exact absurd ⟨h5, by omega⟩ h3
          · exact h6
          · exact absurd ⟨h5, by omega⟩ h3
theorem endS_ok {s : PSite} {p : PPart} {r : S35} (hk : r.f0 = 4 ∨ r.f0 = 5 ∨ r.f0 = 6) (h : (endS s p r).2 = 0) : p.right = true ∧ (
    (r.f0 = 4 ∧ p.st = 0 ∧ (endS s p r).1 = { s with parts := upd s.parts r.f1 { p with st := 1 }, led := putP s.led [] }) ∨
    (r.f0 = 4 ∧ p.st = 0 ∧ (endS s p r).1 = { s with parts := upd s.parts r.f1 { p with st := 2 }, led := putP s.led [], locks := freeP s.locks r.f1 }) ∨
    (r.f0 = 5 ∧ p.st = 1 ∧ p.loc = false ∧ (endS s p r).1 = { s with parts := upd s.parts r.f1 { p with loc := true }, led := putP s.led p.adds, locks := freeP s.locks r.f1 }) ∨
    (r.f0 = 6 ∧ p.st = 3 ∧ (endS s p r).1 = { s with parts := upd s.parts r.f1 p, led := putP s.led [], locks := freeP s.locks r.f1 }) ∨
    (r.f0 = 6 ∧ p.st ≠ 3 ∧ (r.f3 = 1 ∧ p.st = 1 ∨ r.f3 = 2) ∧ (endS s p r).1 = { s with parts := upd s.parts r.f1 ⟨3, p.adds, p.loc, r.f3⟩, led := putP s.led (if (r.f3 == 1) = p.loc then [] else if p.loc = true then HD.oppL p.adds else p.adds), locks := freeP s.locks r.f1 })) := by
  unfold endS at h ⊢
  split at h
  · rename_i h1; exact absurd h h1
  · rename_i h1
    rw [if_neg h1]
    simp only
    have h1' : (endD p r).2.2 = 0 := by simpa using h1
    clear h1 h
    unfold endD at h1' ⊢
    rcases hk with hk | hk | hk
    · rw [if_pos hk] at h1' ⊢
      unfold voteP at h1' ⊢
      split at h1'
      · simp at h1'
      · rename_i h2
        rw [if_neg h2]
        split at h1'
        · simp at h1'
        · rename_i h3
          rw [if_neg h3]
          refine ⟨by simpa using h2, ?_⟩
          cases hb : (r.f3 != 0) with
          | true => exact .inl ⟨hk, by simpa using h3, by simp [hk]⟩
          | false => exact .inr (.inl ⟨hk, by simpa using h3, by simp [hk]⟩)
    · rw [if_neg (by omega), if_pos hk] at h1' ⊢
      unfold localP at h1' ⊢
      split at h1'
      · simp at h1'
      · rename_i h2
        rw [if_neg h2]
        split at h1'
        · simp at h1'
        · rename_i h3
          rw [if_neg h3]
          split at h1'
          · simp at h1'
          · rename_i h4
            rw [if_neg h4]
            exact ⟨by simpa using h2, .inr (.inr (.inl ⟨hk, by simpa using h3, by simpa using h4, by simp [hk]⟩))⟩
    · rw [if_neg (by omega), if_neg (by omega)] at h1' ⊢
      split at h1'
      · rename_i h0
        rw [if_pos h0]
        unfold decideP at h1' ⊢
        split at h1'
        · simp at h1'
        · rename_i h2
          rw [if_neg h2]
          have hr : p.right = true := by
            cases hq : p.right with
            | true => rfl
            | false => exact absurd (.inl hq) h2
          obtain ⟨_, _, a3, a4, _, _⟩ := right_el hr
          refine ⟨hr, ?_⟩
          split at h1'
          · rename_i h3
            rw [if_pos h3]
            refine .inr (.inr (.inr (.inl ⟨hk, ?_, by simp [hk]⟩)))
            rcases Int.lt_trichotomy p.st 3 with h5 | h5 | h5
            · have := (a4 (by omega)).1; omega
            · exact h5
            · have := (a4 (by omega)).1; omega
          · rename_i h3
            rw [if_neg h3]
            split at h1'
            · simp at h1'
            · rename_i h4
              rw [if_neg h4]
              exact .inr (.inr (.inr (.inr ⟨hk, by omega, by omega, by simp [hk]⟩)))
      · simp at h1'
theorem oppL_narrow {l : List S73} (h : l.any HD.wideB = false) : (HD.oppL l).any HD.wideB = false := by
  rw [List.any_eq_false] at h ⊢
  intro x hx
  unfold HD.oppL at hx
  obtain ⟨y, hy, rfl⟩ := List.mem_map.1 hx
  have := h y (List.mem_reverse.1 hy)
  unfold HD.wideB HD.negD at *
  exact this
theorem Inv.part {s : PSite} (h : Inv s) (i : Int) : ((s.parts i).getD zeroP).right = true ∧ ((((s.parts i).getD zeroP).st = 0 ∨ ((s.parts i).getD zeroP).st = 1) → ((s.parts i).getD zeroP).loc = false → ∀ d ∈ ((s.parts i).getD zeroP).adds, ∃ h ∈ s.locks, h.f0 = d.f0 ∧ h.f1 = i ∧ h.f2 = true) := by
  cases hp : s.parts i with
  | none => exact ⟨zero_right, fun _ _ d hd => by simp [zeroP] at hd⟩
  | some p => exact ⟨h.parts i p hp, h.hold i p hp⟩
theorem narrow_nil : ([] : List S73).any HD.wideB = false := rfl
theorem accessS_ok {s : PSite} {p : PPart} {r : S35} (hk : r.f0 = 2 ∨ r.f0 = 3) (h : (accessS s p r).2.2 = 0) : p.st = 0 ∧ (H.takeP s.locks r.f1 r.f2 (r.f0 == 3)).2 = 0 ∧
    ((r.f0 = 2 ∧ accessS s p r = ({ s with locks := (H.takeP s.locks r.f1 r.f2 false).1 }, ownSum (getL s.led r.f2) r.f2 p.adds, 0)) ∨
     (r.f0 = 3 ∧ (addP p ⟨r.f2, r.f3⟩).2 = 0 ∧ accessS s p r = ({ s with locks := (H.takeP s.locks r.f1 r.f2 true).1, parts := upd s.parts r.f1 (addP p ⟨r.f2, r.f3⟩).1 }, 0, 0))) := by
  unfold accessS at h ⊢
  split at h
  · simp at h
  · rename_i h1
    rw [if_neg h1]
    split at h
    · rename_i h2; exact absurd h h2
    · rename_i h2
      rw [if_neg h2]
      refine ⟨by simpa using h1, by simpa using h2, ?_⟩
      rcases hk with hk | hk
      · rw [if_neg (by omega)]
        exact .inl ⟨hk, by simp [hk]⟩
      · rw [if_pos hk] at h ⊢
        split at h
        · rename_i h3; exact absurd h h3
        · rename_i h3
          rw [if_neg h3]
          exact .inr ⟨hk, by simpa using h3, by simp [hk]⟩
theorem stepS_inv {s : PSite} (h : Inv s) {r : S35} (hk : 1 ≤ r.f0 ∧ r.f0 ≤ 6) (he : (stepS s ((s.parts r.f1).getD zeroP) r).2.2 = 0) : Inv (stepS s ((s.parts r.f1).getD zeroP) r).1 := by
  obtain ⟨hp, hh⟩ := h.part r.f1
  generalize (s.parts r.f1).getD zeroP = p at hp hh he ⊢
  obtain ⟨p1, p2, p3, p4, p5, p6⟩ := right_el hp
  unfold stepS at he ⊢
  by_cases k1 : r.f0 = 1
  · rw [if_pos k1]
    exact h.turn hp h.locks (More.refl _) hh
  · rw [if_neg k1] at he ⊢
    by_cases k2 : r.f0 = 2 ∨ r.f0 = 3
    · rw [if_pos k2] at he ⊢
      obtain ⟨h0, ht, ⟨h1, h2⟩ | ⟨h1, ha, h2⟩⟩ := accessS_ok k2 he
      · rw [h2]
        have hf : (r.f0 == 3) = false := by rw [h1]; rfl
        rw [hf] at ht
        obtain ⟨t1, t2, t3, t4⟩ := take_more ht
        exact h.lock t1 t3
      · rw [h2]
        have hf : (r.f0 == 3) = true := by rw [h1]; rfl
        rw [hf] at ht
        obtain ⟨t1, t2, t3, e, t4, t5, t6, t7⟩ := take_more ht
        obtain ⟨a1, a2, a3, a4, a5⟩ := addP_ok ha
        rw [a5]
        refine h.turn (right_mk ?_ (by simp; omega) (fun h => by simp at h; omega) (fun _ => p4 (by omega)) p5 p6) t1 t3 (fun _ hl d hd => ?_)
        · rw [List.any_append, p1, Bool.false_or]
          simp [HD.wideB]
          omega
        · rcases List.mem_append.1 hd with hd | hd
          · obtain ⟨e, he, e0, e1, e2⟩ := hh (.inl a3) hl d hd
            obtain ⟨e', he', k0, k1, k2⟩ := t3 e he
            exact ⟨e', he', by omega, by omega, k2 e2⟩
          · simp at hd
            subst hd
            exact ⟨e, t4, t5, t6, t7 rfl⟩
    · rw [if_neg k2] at he ⊢
      simp only at he ⊢
      have hP := putP_law h.led [] narrow_nil
      obtain ⟨_, ⟨h1, h2, h3⟩ | ⟨h1, h2, h3⟩ | ⟨h1, h2, h4, h3⟩ | ⟨h1, h2, h3⟩ | ⟨h1, h2, h4, h3⟩⟩ := endS_ok (by omega) he
      · rw [h3]
        exact h.turnL (right_mk p1 p2 (fun h => by simp at h) (fun _ => ⟨(p4 (by omega)).1, fun _ => rfl⟩) (by simp) (by simp)) hP.1 (fun _ hl d hd => hh (.inl h2) hl d hd)
      · rw [h3]
        exact h.ends (right_mk p1 p2 (fun h => by simp at h) (fun _ => ⟨(p4 (by omega)).1, fun hl => by have := (p4 (by omega)).2 hl; omega⟩) (by simp) (by simp)) hP.1 (fun h5 _ => by simp at h5)
      · rw [h3]
        exact h.ends (right_mk p1 p2 (fun h => by simp at h; omega) (fun _ => ⟨(p4 (by omega)).1, fun _ => h2⟩) p5 p6) (putP_law h.led _ p1).1 (fun _ h5 => by simp at h5)
      · rw [h3]
        exact h.ends hp hP.1 (fun h5 _ => by omega)
      · rw [h3]
        refine h.ends (right_mk p1 p2 (fun _ => by simp only; omega) (fun h => absurd rfl h) (by simp) (by simp)) (putP_law h.led _ ?_).1 (fun h5 _ => by simp at h5)
        split
        · rfl
        · split
          · exact oppL_narrow p1
          · exact p1
theorem Inv.step {s : PSite} (h : Inv s) (r : S35) : Inv (doS s r).1 := by
  by_cases he : (doS s r).2.2 = 0
  · obtain ⟨h1, _, _, h4, h5⟩ := doS_ok he
    rw [h5]
    exact (stepS_inv h ⟨h1.1, h1.2.1⟩ h4).log _
  · rw [(doS_err s r he).1]
    exact h
theorem runS_inv {s : PSite} (h : Inv s) (l : List S36) : Inv (runS s l) := by
  induction l generalizing s with
  | nil => exact h
  | cons x l ih => exact ih (h.step (toR x))
theorem playS_inv (l : List S36) : Inv (playS l) := runS_inv Inv.new _
end Go.Proofs.Ytolpcfjmhimpeaa.HS
