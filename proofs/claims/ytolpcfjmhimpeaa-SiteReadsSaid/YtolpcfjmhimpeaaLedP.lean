/- The plain laws of ledgers: what deltas make of a key's number. -/

import Derived.Test.YtolpcfjmhimpeaaSiR
namespace Go.Proofs.Ytolpcfjmhimpeaa.HD
open Go.RowKit Go.Proofs.YtolpcfjmhimpeaaW.PrintWords Go.Proofs.YtolpcfjmhimpeaaW.PrintLast Go.Proofs.YtolpcfjmhimpeaaW.PrintMore Go.Proofs.Ytolpcfjmhimpeaa.P
set_option linter.unusedVariables false
set_option linter.unusedSimpArgs false

structure LP (l : List S73) : Prop where
  el : ∀ d ∈ l, d.f0 < 64 ∧ d.f1 ≠ 0
  up : l.Pairwise (fun a b => a.f0 < b.f0)
theorem getD_in (l : List S73) (i : Nat) (h : i < l.length) : l.getD i z73 = l[i] := by rw [List.getD_eq_getElem?_getD, List.getElem?_eq_getElem h]; rfl
theorem lright_iff (l : List S73) : lright l = true ↔ LP l := by
  unfold lright
  rw [List.all_eq_true]
  constructor
  · intro h
    have h' : ∀ i (hi : i < l.length), l[i].f0 < 64 ∧ l[i].f1 ≠ 0 ∧ ∀ j (hj : j + 1 = i), (l[j]'(by omega)).f0 < l[i].f0 := by
      intro i hi
      have := h i (by simpa using hi)
      unfold okL at this
      rw [rdD l i hi] at this
      simp only [Bool.and_eq_true, Bool.not_eq_true', decide_eq_false_iff_not, Bool.or_eq_true, decide_eq_true_eq, beq_eq_false_iff_ne] at this
      refine ⟨by omega, this.1.2, ?_⟩
      rintro j rfl
      rcases this.2 with h0 | h0
      · omega
      · rw [show j + 1 - 1 = j from by omega, rdD l j (by omega)] at h0
        exact h0
    refine ⟨fun d hd => ?_, List.pairwise_iff_getElem.2 fun i j hi hj hij => ?_⟩
    · obtain ⟨i, hi, rfl⟩ := List.mem_iff_getElem.1 hd
      exact ⟨(h' i hi).1, (h' i hi).2.1⟩
    · have key : ∀ n (hn : i + 1 + n < l.length), l[i].f0 < (l[i + 1 + n]'hn).f0 := by
        intro n
        induction n with
        | zero => intro hn; exact (h' (i + 1) hn).2.2 i rfl
        | succ n ih => intro hn; exact Int.lt_trans (ih (by omega)) ((h' (i + 1 + (n + 1)) hn).2.2 (i + 1 + n) rfl)
      have := key (j - i - 1) (by omega)
      simpa [show i + 1 + (j - i - 1) = j from by omega] using this
  · intro h i hi
    have hi : i < l.length := by simpa using hi
    unfold okL
    rw [rdD l i hi]
    have h1 := h.el _ (List.getElem_mem hi)
    simp only [Bool.and_eq_true, Bool.not_eq_true', decide_eq_false_iff_not, Bool.or_eq_true, decide_eq_true_eq, beq_eq_false_iff_ne]
    refine ⟨⟨by omega, h1.2⟩, ?_⟩
    by_cases h0 : i = 0
    · exact .inl h0
    · refine .inr ?_
      rw [rdD l (i - 1) (by omega)]
      exact List.pairwise_iff_getElem.1 h.up (i - 1) i (by omega) hi (by omega)

theorem bs_spec (q : Int → Bool) (n : Int) (hq : ∀ i j, 0 ≤ i → i ≤ j → j < n → q j = true → q i = true) (f : Nat) : ∀ i j, 0 ≤ i → i ≤ j → j ≤ n → j - i ≤ f → (∀ a, 0 ≤ a → a < i → q a = true) → (∀ a, j ≤ a → a < n → q a = false) →
    ∀ a, 0 ≤ a → a < n → (q a = true ↔ a < bs q f i j) := by
  induction f with
  | zero =>
    intro i j h0 h1 h2 h3 hl hr a ha hn
    unfold bs
    by_cases h : a < i
    · exact ⟨fun _ => h, fun _ => hl a ha h⟩
    · exact ⟨fun hh => absurd hh (by rw [hr a (by omega) hn]; simp), fun hh => absurd hh h⟩
  | succ f ih =>
    intro i j h0 h1 h2 h3 hl hr a ha hn
    unfold bs
    by_cases hij : i < j
    · rw [if_pos hij]
      cases hm : q ((i + j) / 2) with
      | true =>
        rw [if_pos rfl]
        exact ih _ _ (by omega) (by omega) h2 (by omega) (fun b hb0 hb => hq b ((i + j) / 2) hb0 (by omega) (by omega) hm) hr a ha hn
      | false =>
        rw [if_neg (by simp)]
        refine ih _ _ h0 (by omega) (by omega) (by omega) hl (fun b hb hbn => ?_) a ha hn
        cases hb2 : q b with
        | false => rfl
        | true => rw [hq ((i + j) / 2) b (by omega) hb hbn hb2] at hm; cases hm
    · rw [if_neg hij]
      by_cases h : a < i
      · exact ⟨fun _ => h, fun _ => hl a ha h⟩
      · exact ⟨fun hh => absurd hh (by rw [hr a (by omega) hn]; simp), fun hh => absurd hh h⟩

/-- A ledger, cut where a key stands or would stand. -/
theorem kcut {l : List S73} (hl : LP l) (x : Int) : ∃ A B, l = A ++ B ∧ (spotK l x).toNat = A.length ∧ (∀ a ∈ A, a.f0 < x) ∧ (∀ b ∈ B, x ≤ b.f0) ∧ (isK l x = true ↔ ∃ b C, B = b :: C ∧ b.f0 = x) := by
  have hc : ∀ a b : Int, cmpI a b < 0 ↔ a < b := by intro a b; unfold cmpI; (repeat' split) <;> omega
  have hz : ∀ a b : Int, (cmpI a b == 0) = true ↔ a = b := by intro a b; unfold cmpI; (repeat' split) <;> simp <;> omega
  have hq : ∀ i j : Int, 0 ≤ i → i ≤ j → j < (l.length : Int) → lessK l x j = true → lessK l x i = true := by
    intro i j h0 hij hj h
    unfold lessK at *
    rw [decide_eq_true_iff, hc] at *
    rcases Int.lt_or_eq_of_le hij with hlt | rfl
    · obtain ⟨i', rfl⟩ : ∃ i' : Nat, i = i' := ⟨i.toNat, by omega⟩
      obtain ⟨j', rfl⟩ : ∃ j' : Nat, j = j' := ⟨j.toNat, by omega⟩
      rw [rdD l i' (by omega)]
      rw [rdD l j' (by omega)] at h
      exact Int.lt_trans (List.pairwise_iff_getElem.1 hl.up i' j' (by omega) (by omega) (by omega)) h
    · exact h
  have hs := bs_spec (lessK l x) l.length hq l.length 0 l.length (by omega) (by omega) (by omega) (by omega) (fun a h1 h2 => by omega) (fun a h1 h2 => by omega)
  have hr := bs_range (lessK l x) l.length 0 l.length (by omega)
  have hsp : spotK l x = bs (lessK l x) l.length 0 l.length := rfl
  rw [← hsp] at hs hr
  have key : ∀ i, ∀ hi : i < l.length, (l[i].f0 < x ↔ (i : Int) < spotK l x) := by
    intro i hi
    have := hs (i : Int) (by omega) (by omega)
    unfold lessK at this
    rw [rdD l i hi, decide_eq_true_iff, hc] at this
    exact this
  have hB : ∀ b ∈ l.drop (spotK l x).toNat, x ≤ b.f0 := by
    intro b hb
    obtain ⟨i, hi, rfl⟩ := List.mem_iff_getElem.1 hb
    rw [List.length_drop] at hi
    rw [List.getElem_drop]
    rcases Int.lt_or_le (l[(spotK l x).toNat + i]'(by omega)).f0 x with h | h
    · have := (key _ (by omega)).1 h
      omega
    · exact h
  refine ⟨l.take (spotK l x).toNat, l.drop (spotK l x).toNat, (List.take_append_drop _ _).symm, by rw [List.length_take]; omega, fun a ha => ?_, hB, ?_⟩
  · obtain ⟨i, hi, rfl⟩ := List.mem_iff_getElem.1 ha
    rw [List.length_take] at hi
    rw [List.getElem_take]
    exact (key i (by omega)).2 (by omega)
  · unfold isK
    rw [Bool.and_eq_true, decide_eq_true_iff, hz]
    constructor
    · rintro ⟨h1, h2⟩
      obtain ⟨n, hn⟩ : ∃ n : Nat, spotK l x = n := ⟨(spotK l x).toNat, by omega⟩
      rw [hn] at h1 h2 ⊢
      rw [rdD l n (by omega)] at h2
      exact ⟨_, _, List.drop_eq_getElem_cons (by simp; omega), by simpa using h2⟩
    · rintro ⟨b, C, h1, h2⟩
      obtain ⟨n, hn⟩ : ∃ n : Nat, spotK l x = n := ⟨(spotK l x).toNat, by omega⟩
      rw [hn] at h1 ⊢
      rw [Int.toNat_natCast] at h1
      have hlt : n < l.length := by
        rcases Nat.lt_or_ge n l.length with h | h
        · exact h
        · rw [List.drop_of_length_le h] at h1; cases h1
      rw [List.drop_eq_getElem_cons hlt] at h1
      injection h1 with h1 h3
      refine ⟨by omega, ?_⟩
      rw [rdD l n hlt, h1, h2]
end Go.Proofs.Ytolpcfjmhimpeaa.HD
