/- The plain laws of ledgers, further: Put. -/

import Derived.Test.YtolpcfjmhimpeaaLedP
namespace Go.Proofs.Ytolpcfjmhimpeaa.HS
open Go.RowKit Go.Proofs.YtolpcfjmhimpeaaW.PrintWords Go.Proofs.YtolpcfjmhimpeaaW.PrintLast Go.Proofs.YtolpcfjmhimpeaaW.PrintMore Go.Proofs.Ytolpcfjmhimpeaa.P
set_option linter.unusedVariables false
set_option linter.unusedSimpArgs false

theorem getL_low {A : List S73} {k : Int} (h : ∀ a ∈ A, a.f0 ≠ k) (B : List S73) : getL (A ++ B) k = getL B k := by
  unfold getL
  rw [List.find?_append, List.find?_eq_none.2 (fun a ha => by simpa using h a ha)]
  rfl
theorem getL_none {A : List S73} {k : Int} (h : ∀ a ∈ A, a.f0 ≠ k) : getL A k = 0 := by
  have := getL_low h []
  rw [List.append_nil] at this
  rw [this]
  rfl
theorem getL_cons (x : S73) (C : List S73) (k : Int) : getL (x :: C) k = if x.f0 = k then x.f1 else getL C k := by
  unfold getL
  rw [List.find?_cons]
  by_cases h : x.f0 = k
  · rw [if_pos h]; simp [h]
  · have h' : (x.f0 == k) = false := by simpa using h
    rw [if_neg h, h']
theorem getL_app {A : List S73} {k : Int} (B C : List S73) (h : getL B k = getL C k) : getL (A ++ B) k = getL (A ++ C) k := by
  induction A with
  | nil => exact h
  | cons a A ih => rw [List.cons_append, List.cons_append, getL_cons, getL_cons, ih]
/-- A key's place. -/
structure Mid (l A C : List S73) (x v : Int) : Prop where
  low : ∀ a ∈ A, a.f0 < x
  high : ∀ c ∈ C, x < c.f0
  el : ∀ a ∈ A ++ C, a.f0 < 64 ∧ a.f1 ≠ 0
  up : (A ++ C).Pairwise (fun a b => a.f0 < b.f0)
  here : getL l x = v
  else_ : ∀ k, k ≠ x → getL l k = getL (A ++ C) k
theorem Mid.with {l A C : List S73} {x v : Int} (h : Mid l A C x v) (s : Int) (hx : x < 64) (hs : s ≠ 0) : HD.LP (A ++ ⟨x, s⟩ :: C) := by
  obtain ⟨pA, pC, pAC⟩ := List.pairwise_append.1 h.up
  refine ⟨fun d hd => ?_, List.pairwise_append.2 ⟨pA, List.pairwise_cons.2 ⟨fun c hc => h.high c hc, pC⟩, fun a ha b hb => ?_⟩⟩
  · rcases List.mem_append.1 hd with hd | hd
    · exact h.el d (by simp [hd])
    · rcases List.mem_cons.1 hd with rfl | hd
      · exact ⟨hx, hs⟩
      · exact h.el d (by simp [hd])
  · rcases List.mem_cons.1 hb with rfl | hb
    · exact h.low a ha
    · exact pAC a ha b hb
theorem Mid.get {l A C : List S73} {x v : Int} (h : Mid l A C x v) (s k : Int) : getL (A ++ ⟨x, s⟩ :: C) k = if k = x then s else getL l k := by
  by_cases hk : k = x
  · subst hk
    rw [if_pos rfl, getL_low (fun a ha => by have := h.low a ha; omega), getL_cons, if_pos rfl]
  · rw [if_neg hk, h.else_ k hk]
    exact getL_app _ _ (by rw [getL_cons, if_neg (fun e => hk e.symm)])
theorem Mid.gone {l A C : List S73} {x v : Int} (h : Mid l A C x v) (k : Int) : getL (A ++ C) k = if k = x then 0 else getL l k := by
  by_cases hk : k = x
  · subst hk
    rw [if_pos rfl]
    refine getL_none (fun a ha => ?_)
    rcases List.mem_append.1 ha with ha | ha
    · have := h.low a ha; omega
    · have := h.high a ha; omega
  · rw [if_neg hk, h.else_ k hk]

theorem put1_mid {l : List S73} (hl : HD.LP l) (x : S73) : ∃ A C v, Mid l A C x.f0 v ∧ HD.put1 l x = if wrap64 (v + x.f1) = 0 then A ++ C else A ++ ⟨x.f0, wrap64 (v + x.f1)⟩ :: C := by
  obtain ⟨A, B, rfl, hn, hlow, hhigh, his⟩ := HD.kcut hl x.f0
  have hup := hl.up
  obtain ⟨pA, pB, pAB⟩ := List.pairwise_append.1 hup
  cases hk : HD.isK (A ++ B) x.f0 with
  | true =>
    obtain ⟨b, C, rfl, hb⟩ := his.1 hk
    refine ⟨A, C, b.f1, ⟨hlow, fun c hc => by rw [← hb]; exact (List.pairwise_cons.1 pB).1 c hc, fun a ha => hl.el a (by rcases List.mem_append.1 ha with h | h <;> simp [h]), List.pairwise_append.2 ⟨pA, (List.pairwise_cons.1 pB).2, fun a ha c hc => pAB a ha c (by simp [hc])⟩, ?_, fun k hk => ?_⟩, ?_⟩
    · rw [getL_low (fun a ha => by have := hlow a ha; omega), getL_cons, if_pos hb]
    · exact getL_app _ _ (by rw [getL_cons, if_neg (by omega)])
    · unfold HD.put1 HD.sumK HD.insK
      rw [hk, if_pos rfl, hn]
      have hg : (A ++ b :: C).getD A.length z73 = b := by simp [List.getD_eq_getElem?_getD]
      rw [hg]
      unfold HD.setK HD.delH
      rw [hg, hb]
      simp only [beq_iff_eq]
      split
      · simp [List.set_append]
      · simp [List.set_append]
  | false =>
    have hnot : ∀ b ∈ B, x.f0 < b.f0 := by
      cases B with
      | nil => intro b hb; cases hb
      | cons b0 C =>
        have h0 : b0.f0 ≠ x.f0 := fun h => by rw [his.2 ⟨b0, C, rfl, h⟩] at hk; cases hk
        have h1 := hhigh b0 (by simp)
        intro b hb
        rcases List.mem_cons.1 hb with rfl | hb
        · omega
        · have := (List.pairwise_cons.1 pB).1 b hb; omega
    refine ⟨A, B, 0, ⟨hlow, hnot, hl.el, hup, ?_, fun k hk => rfl⟩, ?_⟩
    · refine getL_none (fun a ha => ?_)
      rcases List.mem_append.1 ha with ha | ha
      · have := hlow a ha; omega
      · have := hnot a ha; omega
    · have hi : HD.insH (A ++ B) A.length ⟨x.f0, 0⟩ = A ++ ⟨x.f0, 0⟩ :: B := by unfold HD.insH; rw [List.take_left, List.drop_left]
      have hins : HD.insK (A ++ B) x.f0 = A ++ ⟨x.f0, 0⟩ :: B := by unfold HD.insK; rw [hk, if_neg (by simp), hn, hi]
      unfold HD.put1 HD.sumK
      rw [hins, hn]
      have hg : (A ++ (⟨x.f0, 0⟩ : S73) :: B).getD A.length z73 = ⟨x.f0, 0⟩ := by simp [List.getD_eq_getElem?_getD]
      rw [hg]
      unfold HD.setK HD.delH
      rw [hg]
      simp only [beq_iff_eq]
      split
      · simp [List.set_append]
      · simp [List.set_append]
theorem put1_law {l : List S73} (hl : HD.LP l) (x : S73) (hx : x.f0 < 64) : HD.LP (HD.put1 l x) ∧ ∀ k, getL (HD.put1 l x) k = if x.f0 = k then wrap64 (getL l k + x.f1) else getL l k := by
  obtain ⟨A, C, v, hm, he⟩ := put1_mid hl x
  rw [he]
  by_cases h0 : wrap64 (v + x.f1) = 0
  · rw [if_pos h0]
    refine ⟨⟨hm.el, hm.up⟩, fun k => ?_⟩
    rw [hm.gone k]
    by_cases hk : x.f0 = k
    · subst hk
      rw [if_pos rfl, if_pos rfl, hm.here, h0]
    · rw [if_neg (fun e => hk e.symm), if_neg hk]
  · rw [if_neg h0]
    refine ⟨hm.with _ hx h0, fun k => ?_⟩
    rw [hm.get _ k]
    by_cases hk : x.f0 = k
    · subst hk
      rw [if_pos rfl, if_pos rfl, hm.here]
    · rw [if_neg (fun e => hk e.symm), if_neg hk]
theorem putL_law {l : List S73} (hl : HD.LP l) (d : List S73) (hd : ∀ x ∈ d, x.f0 < 64) : HD.LP (HD.putL l d) ∧ ∀ k, getL (HD.putL l d) k = ownSum (getL l k) k d := by
  induction d generalizing l with
  | nil => exact ⟨hl, fun k => rfl⟩
  | cons x d ih =>
    obtain ⟨h1, h2⟩ := put1_law hl x (hd x (by simp))
    obtain ⟨h3, h4⟩ := ih h1 (fun y hy => hd y (by simp [hy]))
    refine ⟨h3, fun k => ?_⟩
    show getL (HD.putL (HD.put1 l x) d) k = ownSum (if x.f0 = k then wrap64 (getL l k + x.f1) else getL l k) k d
    rw [h4 k, h2 k]
theorem putP_law {l : List S73} (hl : HD.LP l) (d : List S73) (hd : d.any HD.wideB = false) : HD.LP (putP l d) ∧ ∀ k, getL (putP l d) k = ownSum (getL l k) k d := by
  unfold putP
  rw [if_pos ⟨(HD.lright_iff l).2 hl, hd⟩]
  refine putL_law hl d (fun x hx => ?_)
  have := List.any_eq_false.1 hd x hx
  unfold HD.wideB at this
  simp at this
  omega
theorem ownSum_none {n k : Int} {d : List S73} (h : ∀ x ∈ d, x.f0 ≠ k) : ownSum n k d = n := by
  induction d generalizing n with
  | nil => rfl
  | cons x d ih =>
    show ownSum (if x.f0 = k then wrap64 (n + x.f1) else n) k d = n
    rw [if_neg (h x (by simp)), ih (fun y hy => h y (by simp [hy]))]
end Go.Proofs.Ytolpcfjmhimpeaa.HS
