
import Derived.Test.YtjabikmofancfaaLkPure
import Derived.Test.YtjabikmofancfaaP2
import Derived.Test.YtjabikmofancfaaP3
import Derived.Test.YtjabikmofancfaaP5
namespace Go.Proofs.Ytjabikmofancfaa.H
open Go.RowKit Go.Proofs.YtjabikmofancfaaW.PrintWords Go.Proofs.YtjabikmofancfaaW.PrintLast Go.Proofs.Ytjabikmofancfaa.P
set_option linter.unusedVariables false
set_option linter.unusedSimpArgs false

def toL (h : S46) : S45 := ⟨h.f0, h.f1, h.f2⟩
def toR (h : S45) : S46 := ⟨h.f0, h.f1, h.f2⟩
theorem toL_toR (h : S45) : toL (toR h) = h := rfl
theorem toR_toL (h : S46) : toR (toL h) = h := rfl
theorem w64 (i : Nat) (h : i < 9223372036854775807) : wrap64 ((i : Int) + 1) = ((i + 1 : Nat) : Int) := by unfold wrap64; omega
theorem drop_at {α : Type} (l : List α) (i : Nat) (h : i < l.length) : l.drop i = l[i] :: l.drop (i + 1) := List.drop_eq_getElem_cons h
theorem rdL (l : List S45) (i : Nat) (h : i < l.length) : rd_T45 l (i : Int) = l[i] := by unfold rd_T45; rw [Int.toNat_natCast]; exact getD_at l i h
theorem rdR (l : List S46) (i : Nat) (h : i < l.length) : rd_T46 l (i : Int) = l[i] := by unfold rd_T46; rw [Int.toNat_natCast, List.getD_eq_getElem?_getD, List.getElem?_eq_getElem h]; rfl

theorem theirs_loop (l : List S46) (hl : l.length ≤ 5864062014805) (d : Nat) : ∀ (k i : Nat) (acc : List S45), i + d = l.length → d < k → acc.length = i → waystationlaw07_theirs.l0 k acc l (l.length : Int) (i : Int) = some (acc ++ (l.drop i).map toL) := by
  induction d with
  | zero =>
    intro k i acc hi hk ha
    obtain ⟨k, rfl⟩ : ∃ m, k = m + 1 := ⟨k - 1, by omega⟩
    simp only [waystationlaw07_theirs.l0]
    rw [if_neg (by omega), List.drop_of_length_le (by omega)]
    simp
  | succ d ih =>
    intro k i acc hi hk ha
    obtain ⟨k, rfl⟩ : ∃ m, k = m + 1 := ⟨k - 1, by omega⟩
    simp only [waystationlaw07_theirs.l0]
    rw [if_pos (by omega), if_pos (by omega), if_pos (by omega), if_pos (by omega), w64 i (by omega), ih k (i + 1) _ (by omega) (by omega) (by simp [ha]), rdR l i (by omega), drop_at l i (by omega), List.map_cons, List.append_assoc]
    rfl
theorem theirs_is (l : List S46) (hl : l.length ≤ 5864062014805) (k : Nat) (hk : l.length < k) : waystationlaw07_theirs.f k l = some (l.map toL) := by
  unfold waystationlaw07_theirs.f
  have := theirs_loop l hl l.length k 0 [] (by omega) hk rfl
  simpa using this
theorem ours_loop (l : List S45) (hl : l.length ≤ 5864062014805) (d : Nat) : ∀ (k i : Nat) (acc : List S46), i + d = l.length → d < k → acc.length = i → waystationlaw07_ours.l0 k acc l (l.length : Int) (i : Int) = some (acc ++ (l.drop i).map toR) := by
  induction d with
  | zero =>
    intro k i acc hi hk ha
    obtain ⟨k, rfl⟩ : ∃ m, k = m + 1 := ⟨k - 1, by omega⟩
    simp only [waystationlaw07_ours.l0]
    rw [if_neg (by omega), List.drop_of_length_le (by omega)]
    simp
  | succ d ih =>
    intro k i acc hi hk ha
    obtain ⟨k, rfl⟩ : ∃ m, k = m + 1 := ⟨k - 1, by omega⟩
    simp only [waystationlaw07_ours.l0]
    rw [if_pos (by omega), if_pos (by omega), if_pos (by omega), if_pos (by omega), w64 i (by omega), ih k (i + 1) _ (by omega) (by omega) (by simp [ha]), rdL l i (by omega), drop_at l i (by omega), List.map_cons, List.append_assoc]
    rfl
theorem ours_is (l : List S45) (hl : l.length ≤ 5864062014805) (k : Nat) (hk : l.length < k) : waystationlaw07_ours.f k l = some (l.map toR) := by
  unfold waystationlaw07_ours.f
  have := ours_loop l hl l.length k 0 [] (by omega) hk rfl
  simpa using this

theorem same_loop (l : List S46) (hl : l.length ≤ 5864062014805) (d : Nat) : ∀ (k i : Nat), i + d = l.length → d < k → waystationref07_Same.l0 k l l (i : Int) = some true := by
  induction d with
  | zero =>
    intro k i hi hk
    obtain ⟨k, rfl⟩ : ∃ m, k = m + 1 := ⟨k - 1, by omega⟩
    simp only [waystationref07_Same.l0]
    rw [if_neg (by omega)]
  | succ d ih =>
    intro k i hi hk
    obtain ⟨k, rfl⟩ : ∃ m, k = m + 1 := ⟨k - 1, by omega⟩
    simp only [waystationref07_Same.l0]
    rw [if_pos (by omega), if_pos (by omega), if_pos (by omega), if_neg (by simp), w64 i (by omega)]
    exact ih k (i + 1) (by omega) (by omega)
theorem same_is (l : List S46) (hl : l.length ≤ 5864062014805) (k : Nat) (hk : l.length < k) : waystationref07_Same.f k l l = some true := by
  unfold waystationref07_Same.f
  rw [if_pos rfl]
  exact same_loop l hl l.length k 0 (by omega) hk

/-- The reference's Holds. -/
theorem rholds_loop (l : List S46) (tx key : Int) (hl : l.length ≤ 5864062014805) (d : Nat) : ∀ (k i : Nat), i + d = l.length → 2 * d + 2 ≤ k → waystationref07_Holds.l0 k l tx key (i : Int) = some (holds ((l.drop i).map toL) tx key) := by
  induction d with
  | zero =>
    intro k i hi hk
    obtain ⟨k, rfl⟩ : ∃ m, k = m + 1 := ⟨k - 1, by omega⟩
    simp only [waystationref07_Holds.l0]
    rw [if_neg (by omega), List.drop_of_length_le (by omega)]
    rfl
  | succ d ih =>
    intro k i hi hk
    obtain ⟨k, rfl⟩ : ∃ m, k = m + 2 := ⟨k - 2, by omega⟩
    simp only [waystationref07_Holds.l0, waystationref07_Holds.j1]
    rw [if_pos (by omega), if_pos (by omega), rdR l i (by omega), drop_at l i (by omega), w64 i (by omega), ih k (i + 1) (by omega) (by omega)]
    have hin : (i : Int) < (l.length : Int) := by omega
    have h0 : (0 : Int) ≤ (i : Int) := by omega
    generalize l[i]'(by omega) = y
    rw [if_pos h0, if_pos hin]
    unfold holds findH
    rw [List.map_cons, List.find?_cons]
    by_cases h1 : y.f0 = key
    · by_cases h2 : y.f1 = tx
      · have e : isH tx key (toL y) = true := by unfold isH toL; simp [h1, h2]
        rw [e, if_pos h1]
        cases h3 : y.f2 <;> simp [h2, toL, h3]
      · have e : isH tx key (toL y) = false := by unfold isH toL; simp [h2]
        rw [e, if_pos h1]
        simp [h2]
    · have e : isH tx key (toL y) = false := by unfold isH toL; simp [h1]
      rw [e, if_neg h1]
      simp
theorem rholds_is (l : List S46) (tx key : Int) (hl : l.length ≤ 5864062014805) (k : Nat) (hk : 2 * l.length + 2 ≤ k) : waystationref07_Holds.f k l tx key = some (holds (l.map toL) tx key) := by
  unfold waystationref07_Holds.f
  have := rholds_loop l tx key hl l.length k 0 (by omega) hk
  simpa using this

/-- The reference's Right: it tells something; and where it says yes, such locks may be. -/
theorem rmay (tx key : Int) : waystationref07_may.f tx key = some (mayB tx key) := by
  unfold waystationref07_may.f mayB
  by_cases h1 : key < 64 <;> by_cases h2 : 0 ≤ tx <;> simp [h1, h2]
def excl (l : List S46) (i : Nat) (h : S46) (k : Nat) : Bool := decide (k ≠ i) && (l.getD k z46).f0 == h.f0 && h.f2
theorem gR (l : List S46) (i : Nat) (h : i < l.length) : l.getD i z46 = l[i] := by rw [List.getD_eq_getElem?_getD, List.getElem?_eq_getElem h]; rfl

theorem rright_inner (l : List S46) (hl : l.length ≤ 5864062014805) (i : Nat) (h : S46) (R : Bool) (K : Nat) (hR : ∀ k, K ≤ k → waystationref07_Right.l0 k l (wrap64 ((i : Int) + 1)) = some R) (d : Nat) : ∀ (k j : Nat), j + d = l.length → K + d + 1 ≤ k →
    waystationref07_Right.l1 k l (i : Int) (j : Int) h.f0 h.f1 h.f2 = some (if (List.range' j d).any (excl l i h) then false else R) := by
  induction d with
  | zero =>
    intro k j hj hk
    obtain ⟨k, rfl⟩ : ∃ m, k = m + 1 := ⟨k - 1, by omega⟩
    simp only [waystationref07_Right.l1]
    rw [if_neg (by omega), hR k (by omega)]
    rfl
  | succ d ih =>
    intro k j hj hk
    obtain ⟨k, rfl⟩ : ∃ m, k = m + 1 := ⟨k - 1, by omega⟩
    simp only [waystationref07_Right.l1]
    rw [if_pos (by omega), w64 j (by omega), ih k (j + 1) (by omega) (by omega), List.range'_succ, List.any_cons]
    have hg : rd_T46 l (j : Int) = l.getD j z46 := by unfold rd_T46; rw [Int.toNat_natCast]
    rw [hg]
    by_cases h1 : j = i
    · rw [if_pos (by omega), show excl l i h j = false from by unfold excl; simp [h1]]
      rfl
    · rw [if_neg (by omega), if_pos (by omega)]
      by_cases h2 : (l.getD j z46).f0 = h.f0
      · rw [if_pos h2]
        cases h3 : h.f2 with
        | true => rw [if_pos rfl, show excl l i h j = true from by unfold excl; rw [h2, h3]; simp [h1]]; rfl
        | false => rw [if_neg (by simp), show excl l i h j = false from by unfold excl; rw [h3]; simp]; rfl
      · rw [if_neg h2, show excl l i h j = false from by unfold excl; rw [beq_eq_false_iff_ne.2 h2]; simp]
        rfl

instance (a b : S45) : Decidable (Lt a b) := by unfold Lt; infer_instance
def rok (l : List S46) (i : Nat) : Bool := mayB (l.getD i z46).f1 (l.getD i z46).f0 && (decide (i = 0) || decide (Lt (toL (l.getD (i - 1) z46)) (toL (l.getD i z46)))) && !((List.range' 0 l.length).any (excl l i (l.getD i z46)))

theorem rright_loop (l : List S46) (hl : l.length ≤ 5864062014805) (d : Nat) : ∀ (i : Nat), i + d = l.length → ∃ K R, (∀ k, K ≤ k → waystationref07_Right.l0 k l (i : Int) = some R) ∧ (R = true ↔ ∀ j, i ≤ j → j < l.length → rok l j = true) := by
  induction d with
  | zero =>
    intro i hi
    refine ⟨1, true, fun k hk => ?_, ⟨fun _ j h1 h2 => by omega, fun _ => rfl⟩⟩
    obtain ⟨k, rfl⟩ : ∃ m, k = m + 1 := ⟨k - 1, by omega⟩
    simp only [waystationref07_Right.l0]
    rw [if_neg (by omega)]
  | succ d ih =>
    intro i hi
    obtain ⟨K, R, hR, hiff⟩ := ih (i + 1) (by omega)
    have hin : i < l.length := by omega
    have step : ∀ b : Bool, (rok l i = b) → ∃ K' R', (∀ k, K' ≤ k → waystationref07_Right.l0 k l (i : Int) = some R') ∧ (R' = true ↔ b = true ∧ R = true) := by
      intro b hb
      have inner := rright_inner l hl i (l.getD i z46) R K (by rw [w64 i (by omega)]; exact hR) l.length
      refine ⟨K + l.length + 3, b && R, fun k hk => ?_, by simp⟩
      obtain ⟨k, rfl⟩ : ∃ m, k = m + 2 := ⟨k - 2, by omega⟩
      have hg : rd_T46 l (i : Int) = l.getD i z46 := by unfold rd_T46; rw [Int.toNat_natCast]
      have hi1 := inner k 0 (by omega) (by omega)
      simp only [waystationref07_Right.l0, waystationref07_Right.j1, hg]
      rw [if_pos (by omega), if_pos (by omega), rmay, Option.bind_some]
      rw [← hb]
      unfold rok
      cases hm : mayB (l.getD i z46).f1 (l.getD i z46).f0 with
      | false => simp
      | true =>
        rw [if_pos rfl]
        have hI : waystationref07_Right.l1 k l (i : Int) 0 (l.getD i z46).f0 (l.getD i z46).f1 (l.getD i z46).f2 = some (if (List.range' 0 l.length).any (excl l i (l.getD i z46)) then false else R) := hi1
        by_cases h0 : i = 0
        · subst h0
          rw [if_neg (by omega), if_neg (by simp), hI]
          cases (List.range' 0 l.length).any (excl l 0 (l.getD 0 z46)) <;> simp
        · have hw : wrap64 ((i : Int) - 1) = ((i - 1 : Nat) : Int) := by unfold wrap64; omega
          have hg1 : rd_T46 l ((i - 1 : Nat) : Int) = l.getD (i - 1) z46 := by unfold rd_T46; rw [Int.toNat_natCast]
          rw [if_pos (by omega), hw, if_pos (by omega), if_pos (by omega), hg1, hI]
          have hLt : Lt (toL (l.getD (i - 1) z46)) (toL (l.getD i z46)) ↔ (l.getD (i - 1) z46).f0 < (l.getD i z46).f0 ∨ (l.getD (i - 1) z46).f0 = (l.getD i z46).f0 ∧ (l.getD (i - 1) z46).f1 < (l.getD i z46).f1 := Iff.rfl
          generalize l.getD (i - 1) z46 = a at hLt
          generalize l.getD i z46 = c at hLt
          by_cases h1 : a.f0 < c.f0
          · rw [if_pos h1, decide_eq_true (hLt.2 (.inl h1))]
            cases (List.range' 0 l.length).any (excl l i c) <;> simp
          · rw [if_neg h1]
            by_cases h2 : a.f0 = c.f0
            · rw [if_pos h2]
              by_cases h3 : a.f1 < c.f1
              · rw [decide_eq_true (hLt.2 (.inr ⟨h2, h3⟩))]
                cases (List.range' 0 l.length).any (excl l i c) <;> simp [h3]
              · rw [show decide (Lt (toL a) (toL c)) = false from decide_eq_false (fun h => by rcases hLt.1 h with h | h <;> omega)]
                simp [h3, h0]
            · rw [if_neg h2, show decide (Lt (toL a) (toL c)) = false from decide_eq_false (fun h => by rcases hLt.1 h with h | h <;> omega)]
              simp [h0]
    obtain ⟨K', R', h1, h2⟩ := step _ rfl
    refine ⟨K', R', h1, h2.trans ⟨fun ⟨ha, hb⟩ j hj hjl => ?_, fun h => ⟨h i (Nat.le_refl _) hin, hiff.2 fun j hj hjl => h j (by omega) hjl⟩⟩⟩
    by_cases e : j = i
    · subst e; exact ha
    · exact hiff.1 hb j (by omega) hjl

theorem rright_is (l : List S46) (hl : l.length ≤ 5864062014805) : ∃ K R, (∀ k, K ≤ k → waystationref07_Right.f k l = some R) ∧ (R = true ↔ RightP (l.map toL)) := by
  obtain ⟨K, R, h1, h2⟩ := rright_loop l hl l.length 0 (by omega)
  refine ⟨K, R, h1, h2.trans ?_⟩
  have hm : ∀ i, ∀ hi : i < (l.map toL).length, (l.map toL)[i] = toL (l.getD i z46) := fun i hi => by rw [List.getElem_map, gR l i (by simpa using hi)]
  constructor
  · intro h
    have hmay : ∀ i, i < l.length → mayB (l.getD i z46).f1 (l.getD i z46).f0 = true := fun i hi => by
      have := h i (by omega) hi
      unfold rok at this
      simp only [Bool.and_eq_true] at this
      exact this.1.1
    have hadj : ∀ i, i + 1 < l.length → Lt (toL (l.getD i z46)) (toL (l.getD (i + 1) z46)) := fun i hi => by
      have := h (i + 1) (by omega) hi
      unfold rok at this
      simp only [Bool.and_eq_true] at this
      simpa using this.1.2
    have hexc : ∀ i j, i < l.length → j < l.length → j ≠ i → (l.getD j z46).f0 = (l.getD i z46).f0 → (l.getD i z46).f2 = false := fun i j hi hj hne he => by
      have := h i (by omega) hi
      unfold rok at this
      simp only [Bool.and_eq_true, Bool.not_eq_true'] at this
      have h3 := List.any_eq_false.1 this.2 j (by rw [List.mem_range']; exact ⟨j, hj, by omega⟩)
      unfold excl at h3
      rw [he, beq_self_eq_true, decide_eq_true hne] at h3
      simpa using h3
    have hlt : ∀ n i, i + n + 1 < l.length → Lt (toL (l.getD i z46)) (toL (l.getD (i + n + 1) z46)) := fun n => by
      induction n with
      | zero => intro i hi; exact hadj i hi
      | succ n ih => intro i hi; exact (ih i (by omega)).trans (hadj (i + n + 1) (by omega))
    refine ⟨fun x hx => ?_, List.pairwise_iff_getElem.2 fun i j hi hj hij => ?_⟩
    · obtain ⟨i, hi, rfl⟩ := List.mem_iff_getElem.1 hx
      rw [hm i hi]
      exact hmay i (by simpa using hi)
    · rw [hm i hi, hm j hj]
      have hi' : i < l.length := by simpa using hi
      have hj' : j < l.length := by simpa using hj
      refine ⟨by have := hlt (j - i - 1) i (by omega); rwa [show i + (j - i - 1) + 1 = j from by omega] at this, fun he => ⟨hexc i j hi' hj' (by omega) he.symm, hexc j i hj' hi' (by omega) he⟩⟩
  · intro h j _ hj
    have hj' : j < (l.map toL).length := by simpa using hj
    unfold rok
    simp only [Bool.and_eq_true, Bool.not_eq_true']
    refine ⟨⟨?_, ?_⟩, ?_⟩
    · have := h.may (l.map toL)[j] (List.getElem_mem hj')
      rw [hm j hj'] at this
      exact this
    · by_cases h0 : j = 0
      · simp [h0]
      · have := (List.pairwise_iff_getElem.1 h.two (j - 1) j (by omega) hj' (by omega)).1
        rw [hm j hj', hm (j - 1) (by omega)] at this
        rw [decide_eq_true this]
        simp
    · rw [List.any_eq_false]
      intro k hk
      rw [List.mem_range'] at hk
      obtain ⟨k', hk', rfl⟩ := hk
      unfold excl
      simp only [Nat.one_mul, Nat.zero_add]
      by_cases hne : k' = j
      · simp [hne]
      · by_cases he : (l.getD k' z46).f0 = (l.getD j z46).f0
        · have hk2 : k' < (l.map toL).length := by simpa using hk'
          rcases Nat.lt_or_gt_of_ne hne with hlt | hgt
          · have := (List.pairwise_iff_getElem.1 h.two k' j hk2 hj' hlt).2
            rw [hm j hj', hm k' hk2] at this
            have h9 : (l.getD j z46).f2 = false := (this he).2
            rw [h9]
            simp
          · have := (List.pairwise_iff_getElem.1 h.two j k' hj' hk2 hgt).2
            rw [hm j hj', hm k' hk2] at this
            have h9 : (l.getD j z46).f2 = false := (this he.symm).1
            rw [h9]
            simp
        · rw [beq_eq_false_iff_ne.2 he]
          simp
end Go.Proofs.Ytjabikmofancfaa.H
