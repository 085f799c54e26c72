/- Right wheels as sorted lists; what Stop and Tick make of them. -/

import Derived.Test.YtngjohckkgmggaaWhPure
namespace Go.Proofs.Ytngjohckkgmggaa.H
open Go.RowKit Go.Proofs.YtngjohckkgmggaaW.PrintWords Go.Proofs.YtngjohckkgmggaaW.PrintLast Go.Proofs.Ytngjohckkgmggaa.P
set_option linter.unusedVariables false
set_option linter.unusedSimpArgs false

def lt2 (a b : S64) : Prop := a.f1 < b.f1 ∨ (a.f1 = b.f1 ∧ a.f0 < b.f0)
theorem ord_lt (a b : S64) : ordI a b < 0 ↔ lt2 a b := by
  unfold ordI orI cmpI lt2
  by_cases h1 : a.f1 < b.f1
  · simp [h1]
  · by_cases h2 : a.f1 > b.f1
    · simp [h1, h2]; omega
    · have h3 : a.f1 = b.f1 := by omega
      by_cases h4 : a.f0 < b.f0
      · simp [h3, h4]
      · by_cases h5 : a.f0 > b.f0
        · simp [h3, h4, h5]
        · simp [h3, h4, h5]
theorem lt2_trans {a b c : S64} (h1 : lt2 a b) (h2 : lt2 b c) : lt2 a c := by unfold lt2 at *; omega
theorem lt2_le {a b : S64} (h1 : lt2 a b) : a.f1 ≤ b.f1 := by unfold lt2 at *; omega

structure WhP (now : Int) (l : List S64) : Prop where
  n0 : 0 ≤ now
  n1 : now ≤ 1099511627776
  len : l.length ≤ 1000
  at0 : ∀ t ∈ l, now < t.f1 ∧ t.f1 ≤ 1099511627776
  two : l.Pairwise (fun a b => lt2 a b ∧ a.f0 ≠ b.f0)

theorem pair_of {l : List S64} (h : ∀ i, i + 1 < l.length → lt2 (l.getD i z64) (l.getD (i + 1) z64)) : ∀ j i, i < j → j < l.length → lt2 (l.getD i z64) (l.getD j z64) := by
  intro j
  induction j with
  | zero => intro i hi; omega
  | succ j ih =>
    intro i hi hj
    by_cases e : i = j
    · subst e; exact h i hj
    · exact lt2_trans (ih i (by omega) (by omega)) (h j hj)
theorem getD_of {l : List S64} {i : Nat} (h : i < l.length) : l.getD i z64 = l[i] := by rw [List.getD_eq_getElem?_getD, List.getElem?_eq_getElem h]; rfl

theorem right_whp {now : Int} {l : List S64} (h : right now l = true) : WhP now l := by
  obtain ⟨a, b, c⟩ := right_now h
  refine ⟨a, b, c, fun t ht => ?_, List.pairwise_iff_getElem.2 fun i j hi hj hij => ⟨?_, ?_⟩⟩
  · obtain ⟨i, hi, rfl⟩ := List.mem_iff_getElem.1 ht
    have := right_at h i hi
    rw [getD_of hi] at this
    exact ⟨this.2.1, this.2.2.1⟩
  · have := pair_of (l := l) (fun i hi => (ord_lt _ _).1 ((right_at h (i + 1) hi).2.2.2 (by omega))) j i hij hj
    rwa [getD_of hi, getD_of hj] at this
  · have := (right_at h j hj).1 i hij
    rwa [getD_of hi, getD_of hj] at this
theorem whp_right {now : Int} {l : List S64} (h : WhP now l) : right now l = true := by
  have h0 := h.n0
  have h1 := h.n1
  have h2 := h.len
  refine right_yes (by unfold okNow; simp; omega) (fun i hi => ?_)
  have hp := List.pairwise_iff_getElem.1 h.two
  have ha := h.at0 l[i] (List.getElem_mem hi)
  unfold okAt
  rw [Bool.not_eq_true', Bool.or_eq_false_iff, Bool.or_eq_false_iff, Bool.or_eq_false_iff, getD_of hi]
  refine ⟨⟨⟨?_, decide_eq_false (by omega)⟩, decide_eq_false (by omega)⟩, ?_⟩
  · rw [List.any_eq_false]
    intro t ht
    obtain ⟨j, hj, rfl⟩ := List.mem_iff_getElem.1 ht
    have hj2 : j < i ∧ j < l.length := by simp at hj; omega
    rw [List.getElem_take]
    simpa using (hp j i hj2.2 hi hj2.1).2
  · by_cases h0 : 0 < i
    · rw [decide_eq_true h0, Bool.true_and, getD_of (by omega)]
      have := (ord_lt _ _).2 (hp (i - 1) i (by omega) hi (by omega)).1
      exact decide_eq_false (by omega)
    · rw [decide_eq_false h0, Bool.false_and]
theorem right_iff {now : Int} {l : List S64} : right now l = true ↔ WhP now l := ⟨right_whp, whp_right⟩
theorem WhP.sub {now now' : Int} {l l' : List S64} (h : WhP now l) (hs : l'.Sublist l) (h0 : now ≤ now') (h1 : now' ≤ 1099511627776) (h2 : ∀ t ∈ l', now' < t.f1) : WhP now' l' :=
  ⟨by have := h.n0; omega, h1, Nat.le_trans hs.length_le h.len, fun t ht => ⟨h2 t ht, (h.at0 t (hs.mem ht)).2⟩, h.two.sublist hs⟩

theorem take_filter {p : S64 → Bool} {l : List S64} (h : l.Pairwise (fun a b => p b = true → p a = true)) : l.takeWhile p = l.filter p ∧ l.dropWhile p = l.filter (fun x => !p x) := by
  induction l with
  | nil => exact ⟨rfl, rfl⟩
  | cons y l ih =>
    rw [List.pairwise_cons] at h
    cases hy : p y with
    | true =>
      obtain ⟨h1, h2⟩ := ih h.2
      simp [List.takeWhile, List.dropWhile, hy, h1, h2]
    | false =>
      have hn : ∀ x ∈ l, p x = false := fun x hx => by
        cases hx2 : p x with
        | false => rfl
        | true => have := h.1 x hx hx2; rw [hy] at this; cases this
      have e1 : l.filter p = [] := List.filter_eq_nil_iff.2 (fun x hx => by rw [hn x hx]; simp)
      have e2 : l.filter (fun x => !p x) = l := List.filter_eq_self.2 (fun x hx => by rw [hn x hx]; rfl)
      simp [List.takeWhile, List.dropWhile, hy, e1, e2]
theorem WhP.rings {now : Int} {l : List S64} (h : WhP now l) (nw : Int) : rungP nw l = (l.filter (rings nw)).map (fun t => t.f0) ∧ leftP nw l = l.filter (fun t => !rings nw t) := by
  have := take_filter (p := H.rings nw) (l := l) (h.two.imp fun {a b} hab hb => by
    have := lt2_le hab.1
    unfold H.rings at *
    have := of_decide_eq_true hb
    exact decide_eq_true (by omega))
  unfold rungP leftP
  rw [this.1, this.2]
  exact ⟨rfl, rfl⟩
theorem WhP.left {now nw : Int} {l : List S64} (h : WhP now l) (h0 : now ≤ nw) (h1 : nw ≤ 1099511627776) : WhP nw (leftP nw l) := by
  rw [(h.rings nw).2]
  refine h.sub List.filter_sublist h0 h1 (fun t ht => ?_)
  have := (List.mem_filter.1 ht).2
  unfold H.rings at this
  simp at this
  exact this

theorem idx_neg (p : S64 → Bool) : ∀ (l : List S64) (i : Int), 0 ≤ i → idx p l i = -1 → ∀ x ∈ l, p x = false := by
  intro l
  induction l with
  | nil => intro i _ _ x hx; simp at hx
  | cons y l ih =>
    intro i hi h x hx
    cases hy : p y with
    | true =>
      have := idx_hit p (y :: l) 0 i (by simp) (by simpa using hy) (fun j hj => absurd hj (Nat.not_lt_zero _))
      omega
    | false =>
      rcases List.mem_cons.1 hx with rfl | hx
      · exact hy
      · refine ih (i + 1) (by omega) ?_ x hx
        unfold idx at h
        rw [hy] at h
        simpa using h
/-- Stop drops the one of that id. -/
theorem stopL_filter {now : Int} {l : List S64} (h : WhP now l) (id : Int) : stopL l id = l.filter (fun t => !isId id t) := by
  unfold stopL
  rcases idx_facts (isId id) l with hi | ⟨k, hk, hi, hp, hq⟩
  · rw [if_pos hi]
    symm
    rw [List.filter_eq_self]
    intro t ht
    rw [idx_neg _ l 0 (Int.le_refl _) hi t ht]
    rfl
  · rw [if_neg (by omega), hi, Int.toNat_natCast]
    have h2 := List.pairwise_iff_getElem.1 h.two
    rw [getD_of hk] at hp
    have hkid : l[k].f0 = id := by simpa [isId] using hp
    have e : l = l.take k ++ l[k] :: l.drop (k + 1) := by rw [← List.drop_eq_getElem_cons hk, List.take_append_drop]
    have e1 : (l.take k).filter (fun t => !isId id t) = l.take k := by
      rw [List.filter_eq_self]
      intro t ht
      obtain ⟨j, hj, rfl⟩ := List.mem_iff_getElem.1 ht
      have hj2 : j < k := by simp at hj; omega
      have := hq j hj2
      rw [getD_of (by omega)] at this
      rw [List.getElem_take, this]
      rfl
    have e2 : (l.drop (k + 1)).filter (fun t => !isId id t) = l.drop (k + 1) := by
      rw [List.filter_eq_self]
      intro t ht
      obtain ⟨j, hj, rfl⟩ := List.mem_iff_getElem.1 ht
      have hj2 : k + 1 + j < l.length := by simp at hj; omega
      have := (h2 k (k + 1 + j) hk hj2 (by omega)).2
      rw [List.getElem_drop]
      have h3 : ¬ (l[k + 1 + j].f0 = id) := fun e => this (by rw [hkid, e])
      simp [isId, h3]
    conv => rhs; rw [e]
    rw [List.filter_append, List.filter_cons_of_neg (by rw [hp]; simp), e1, e2]
    rfl
theorem WhP.stop {now : Int} {l : List S64} (h : WhP now l) (id : Int) : WhP now (stopL l id) := by
  rw [stopL_filter h id]
  exact h.sub List.filter_sublist (Int.le_refl _) h.n1 (fun t ht => (h.at0 t (List.mem_filter.1 ht).1).1)
theorem wfT_sub {l l' : List S64} (h : wfT l = true) (hs : ∀ t ∈ l', t ∈ l) : wfT l' = true := by
  unfold wfT at *
  rw [List.all_eq_true] at *
  exact fun t ht => h t (hs t ht)
end Go.Proofs.Ytngjohckkgmggaa.H
