/- What the document's functions of the wheel answer: Stop, Tick, Set. -/

import Derived.Test.YtngjohckkgmggaaWhPure3
import Derived.Test.YtngjohckkgmggaaP4
import Derived.Test.YtngjohckkgmggaaP5
import Derived.Test.YtngjohckkgmggaaP6
namespace Go.Proofs.Ytngjohckkgmggaa.H
open Go.RowKit Go.Proofs.YtngjohckkgmggaaW.PrintWords Go.Proofs.YtngjohckkgmggaaW.PrintLast Go.Proofs.Ytngjohckkgmggaa.P
set_option linter.unusedVariables false
set_option linter.unusedSimpArgs false

def isO (id : Int) (t : S46) : Bool := t.f0 == id
theorem without_loop (l : List S46) (id : Int) (hl : l.length ≤ 5000) (d : Nat) : ∀ (k i : Nat) (acc : List S46) (b : Bool), i + d = l.length → d < k → acc.length ≤ i →
    waystationref06_without.l0 k l id acc b (i : Int) = some (acc ++ (l.drop i).filter (fun t => !isO id t), b || (l.drop i).any (isO id)) := by
  induction d with
  | zero =>
    intro k i acc b hi hk ha
    obtain ⟨k, rfl⟩ : ∃ m, k = m + 1 := ⟨k - 1, by omega⟩
    simp only [waystationref06_without.l0]
    rw [if_neg (by omega), List.drop_of_length_le (by omega)]
    simp
  | succ d ih =>
    intro k i acc b hi hk ha
    obtain ⟨k, rfl⟩ : ∃ m, k = m + 1 := ⟨k - 1, by omega⟩
    simp only [waystationref06_without.l0]
    rw [if_pos (by omega), if_pos (by omega), rdO l i (by omega), w64 i (by omega), drop_at l i (by omega), List.filter_cons, List.any_cons]
    by_cases h : (l[i]'(by omega)).f0 = id
    · have hb : isO id (l[i]'(by omega)) = true := by simp [isO, h]
      rw [if_pos h, ih k (i + 1) acc true (by omega) (by omega) (by omega), hb]
      simp
    · have hb : isO id (l[i]'(by omega)) = false := by simp [isO, h]
      rw [if_neg h, if_pos (by omega), ih k (i + 1) _ b (by omega) (by omega) (by simp; omega), hb]
      simp
theorem without_is (l : List S46) (id : Int) (hl : l.length ≤ 5000) (k : Nat) (hk : l.length < k) : waystationref06_without.f k l id = some (l.filter (fun t => !isO id t), l.any (isO id)) := by
  unfold waystationref06_without.f
  have := without_loop l id hl l.length k 0 [] false (by omega) hk (by simp)
  simpa using this
theorem filter_toO (p : S64 → Bool) (l : List S64) : (l.map toO).filter (fun t => p (toT t)) = (l.filter p).map toO := by
  rw [List.filter_map]
  rfl
theorem stop_toO {now : Int} {l : List S64} (h : WhP now l) (id : Int) : (l.map toO).filter (fun t => !isO id t) = (stopL l id).map toO := by
  rw [stopL_filter h id, ← filter_toO]
  rfl
theorem any_toO (l : List S64) (id : Int) : (l.map toO).any (isO id) = l.any (isId id) := by
  rw [List.any_map]
  rfl
theorem rstop_is {now : Int} {l : List S64} (h : WhP now l) (id : Int) : ∃ K, ∀ k, K ≤ k → waystationref06_Stop.f k now (l.map toO) id = some (if l.any (isId id) = true then (now, (stopL l id).map toO, 0) else (now, l.map toO, 7)) := by
  have hlen := h.len
  obtain ⟨K, hK⟩ := rright_is now (l.map toO) (by simp; omega)
  rw [mapT_O, whp_right h] at hK
  refine ⟨K + 1100, fun k hk => ?_⟩
  unfold waystationref06_Stop.f
  rw [hK k (by omega), Option.bind_some, if_pos rfl, without_is _ id (by simp; omega) k (by simp; omega), Option.bind_some, stop_toO h, any_toO]
  cases l.any (isId id) <;> rfl

theorem rtick_loop (now nw : Int) (l : List S46) (hl : l.length ≤ 5000) (d : Nat) : ∀ (k i : Nat) (a : List Int) (b : List S46), i + d = l.length → d < k → a.length ≤ i → b.length ≤ i →
    waystationref06_Tick.l0 k nw a b (i : Int) now l = some (nw, b ++ (l.drop i).filter (fun t => !rings nw (toT t)), a ++ ((l.drop i).filter (fun t => rings nw (toT t))).map (fun t => t.f0), 0) := by
  induction d with
  | zero =>
    intro k i a b hi hk ha hb
    obtain ⟨k, rfl⟩ : ∃ m, k = m + 1 := ⟨k - 1, by omega⟩
    simp only [waystationref06_Tick.l0]
    rw [if_neg (by omega), List.drop_of_length_le (by omega)]
    simp
  | succ d ih =>
    intro k i a b hi hk ha hb
    obtain ⟨k, rfl⟩ : ∃ m, k = m + 1 := ⟨k - 1, by omega⟩
    simp only [waystationref06_Tick.l0]
    rw [if_pos (by omega), if_pos (by omega), rdO l i (by omega), w64 i (by omega), drop_at l i (by omega), List.filter_cons, List.filter_cons]
    by_cases h : (l[i]'(by omega)).f1 ≤ nw
    · have hc : rings nw (toT (l[i]'(by omega))) = true := by simp [rings, toT, h]
      rw [if_pos h, if_pos (by omega), ih k (i + 1) _ b (by omega) (by omega) (by simp; omega) (by omega), hc]
      simp
    · have hc : rings nw (toT (l[i]'(by omega))) = false := decide_eq_false h
      rw [if_neg h, if_pos (by omega), ih k (i + 1) a _ (by omega) (by omega) (by omega) (by simp; omega), hc]
      simp
theorem rtick_is {now by_ : Int} {l : List S64} (h : WhP now l) (hb : by_ ≤ 9223372036854775807) : ∃ K, ∀ k, K ≤ k → waystationref06_Tick.f k now (l.map toO) by_ = some (if by_ < 0 then (now, l.map toO, [], 2) else if 1099511627776 - now < by_ then (now, l.map toO, [], 3) else (now + by_, (leftP (now + by_) l).map toO, rungP (now + by_) l, 0)) := by
  have hlen := h.len
  have n0 := h.n0
  have n1 := h.n1
  obtain ⟨K, hK⟩ := rright_is now (l.map toO) (by simp; omega)
  rw [mapT_O, whp_right h] at hK
  refine ⟨K + 1100, fun k hk => ?_⟩
  unfold waystationref06_Tick.f
  rw [hK k (by omega), Option.bind_some, if_pos rfl]
  obtain ⟨k, rfl⟩ : ∃ m, k = m + 1 := ⟨k - 1, by omega⟩
  simp only [waystationref06_Tick.j0]
  have e1 : wrap64 (1099511627776 - now) = 1099511627776 - now := by unfold wrap64; omega
  rw [e1]
  by_cases h1 : by_ < 0
  · rw [if_pos (decide_eq_true h1), if_pos h1]
  · rw [if_neg (by rw [decide_eq_true_iff]; exact h1), if_neg h1]
    by_cases h2 : 1099511627776 - now < by_
    · rw [if_pos h2, if_pos h2]
    · have e2 : wrap64 (now + by_) = now + by_ := by unfold wrap64; omega
      rw [if_neg h2, if_neg h2, e2]
      have := rtick_loop now (now + by_) (l.map toO) (by simp; omega) (l.map toO).length k 0 [] [] (by omega) (by simp; omega) (by simp) (by simp)
      rw [List.drop_zero, List.nil_append, List.nil_append, filter_toO (fun t => !rings (now + by_) t), filter_toO (rings (now + by_)), List.map_map, ← (h.rings _).2] at this
      rw [show (0 : Int) = ((0 : Nat) : Int) from rfl, this, (h.rings (now + by_)).1]
      rfl

def aheadB (x t : S64) : Bool := !decide (0 ≤ ordI x t)
def insF (x : S64) : List S64 → List S64
  | [] => [x]
  | t :: l => if aheadB x t = true then x :: t :: l else t :: insF x l
theorem rset_done (x0 : S46) (now : Int) (L : List S46) (l : List S46) (hl : l.length ≤ 5000) (d : Nat) : ∀ (k i : Nat) (acc : List S46), i + d = l.length → d < k → acc.length ≤ i + 1 →
    waystationref06_Set.l0 k l acc true (i : Int) now L x0.f0 x0.f1 = some (now, acc ++ l.drop i, 0) := by
  induction d with
  | zero =>
    intro k i acc hi hk ha
    obtain ⟨k, rfl⟩ : ∃ m, k = m + 1 := ⟨k - 1, by omega⟩
    simp only [waystationref06_Set.l0]
    rw [if_neg (by omega), List.drop_of_length_le (by omega), if_pos trivial]
    simp
  | succ d ih =>
    intro k i acc hi hk ha
    obtain ⟨k, rfl⟩ : ∃ m, k = m + 1 := ⟨k - 1, by omega⟩
    simp only [waystationref06_Set.l0]
    rw [if_pos (by omega), if_pos trivial, if_pos (by omega), if_pos (by omega), rdO l i (by omega), w64 i (by omega), ih k (i + 1) _ (by omega) (by omega) (by simp; omega), drop_at l i (by omega), List.append_assoc]
    rfl
theorem rset_loop (x0 : S64) (now : Int) (L : List S46) (l : List S64) (hl : l.length ≤ 5000) (d : Nat) : ∀ (k i : Nat) (acc : List S46), i + d = l.length → d < k → acc.length = i →
    waystationref06_Set.l0 k (l.map toO) acc false (i : Int) now L x0.f0 x0.f1 = some (now, acc ++ (insF x0 (l.drop i)).map toO, 0) := by
  induction d with
  | zero =>
    intro k i acc hi hk ha
    obtain ⟨k, rfl⟩ : ∃ m, k = m + 1 := ⟨k - 1, by omega⟩
    simp only [waystationref06_Set.l0]
    rw [if_neg (by simp; omega), List.drop_of_length_le (by omega), if_neg (by simp), if_pos (by omega)]
    rfl
  | succ d ih =>
    intro k i acc hi hk ha
    obtain ⟨k, rfl⟩ : ∃ m, k = m + 1 := ⟨k - 1, by omega⟩
    have hg : (l.map toO)[i]'(by simp; omega) = toO (l[i]'(by omega)) := by simp
    simp only [waystationref06_Set.l0]
    rw [if_pos (by simp; omega), if_neg (by simp), if_pos (by omega), rdO (l.map toO) i (by simp; omega), hg, show x0.f0 = (toO x0).f0 from rfl, show x0.f1 = (toO x0).f1 from rfl, ahead_is, toT_toO, toT_toO, Option.bind_some, w64 i (by omega), drop_at l i (by omega)]
    show (if aheadB x0 l[i] = true then _ else _) = _
    unfold insF
    cases h : aheadB x0 l[i] with
    | true =>
      rw [if_pos rfl, if_pos (by omega), Option.bind_some, if_pos (by simp; omega), rset_done (toO x0) now L (l.map toO) (by simp; omega) d k (i + 1) _ (by simp; omega) (by omega) (by simp; omega), if_pos rfl, ← List.map_drop]
      simp only [List.append_assoc, List.map_cons]
      rfl
    | false =>
      have := ih k (i + 1) (acc ++ [toO l[i]]) (by omega) (by omega) (by simp; omega)
      rw [if_neg (by simp), if_pos (by omega)]
      refine this.trans ?_
      rw [if_neg (by simp), List.append_assoc]
      rfl
theorem insF_is {x : S64} {l : List S64} (h : l.Pairwise (fun a b => lt2 a b ∧ a.f0 ≠ b.f0)) (hi : ∀ t ∈ l, t.f0 ≠ x.f0) : insF x l = insS x l := by
  have hc : ∀ t, t.f0 ≠ x.f0 → aheadB x t = !lessB x t := fun t ht => by
    unfold aheadB lessB
    congr 1
    rw [decide_eq_decide]
    have h1 := ord_lt x t
    have h2 := ord_lt t x
    unfold lt2 at h1 h2
    omega
  induction l with
  | nil => rfl
  | cons y l ih =>
    rw [List.pairwise_cons] at h
    have hy := hc y (hi y (by simp))
    unfold insF
    cases hl : lessB x y with
    | true =>
      rw [hl] at hy
      rw [hy, if_neg (by simp), ih h.2 (fun t ht => hi t (by simp [ht]))]
      unfold insS
      simp [hl]
    | false =>
      rw [hl] at hy
      rw [hy, if_pos (by simp)]
      have hall : ∀ t ∈ l, lessB x t = false := fun t ht => by
        cases h3 : lessB x t with
        | false => rfl
        | true =>
          have := lt2_trans (h.1 t ht).1 (is_less h3)
          unfold lessB at hl
          rw [decide_eq_true ((ord_lt y x).2 this)] at hl
          cases hl
      unfold insS
      have e1 : l.filter (lessB x) = [] := List.filter_eq_nil_iff.2 (fun t ht => by rw [hall t ht]; simp)
      have e2 : l.filter (fun t => !lessB x t) = l := List.filter_eq_self.2 (fun t ht => by rw [hall t ht]; rfl)
      simp [hl, e1, e2]
theorem rset_is {now : Int} {l : List S64} (h : WhP now l) (id at_ : Int) : ∃ K, ∀ k, K ≤ k → waystationref06_Set.f k now (l.map toO) id at_ = some (if at_ ≤ now then (now, l.map toO, 10) else if 1099511627776 < at_ then (now, l.map toO, 3) else if l.any (isId id) = false ∧ 1000 ≤ l.length then (now, l.map toO, 6) else (now, (insS ⟨id, at_⟩ (stopL l id)).map toO, 0)) := by
  have hlen := h.len
  obtain ⟨K, hK⟩ := rright_is now (l.map toO) (by simp; omega)
  rw [mapT_O, whp_right h] at hK
  refine ⟨K + 1100, fun k hk => ?_⟩
  have hs := stopL_len l id
  obtain ⟨k, rfl⟩ : ∃ m, k = m + 1 := ⟨k - 1, by omega⟩
  have hj : waystationref06_Set.j0 (k + 1) id at_ ((stopL l id).map toO) now (l.map toO) = some (now, (insS ⟨id, at_⟩ (stopL l id)).map toO, 0) := by
    simp only [waystationref06_Set.j0]
    have := rset_loop ⟨id, at_⟩ now (l.map toO) (stopL l id) (by omega) (stopL l id).length k 0 [] (by omega) (by omega) rfl
    rw [List.drop_zero, List.nil_append, insF_is (h.stop id).two (fun t ht => ((stop_mem h).1 ht).2)] at this
    exact this
  unfold waystationref06_Set.f
  rw [without_is _ id (by simp; omega) _ (by simp; omega), Option.bind_some, hK _ (by omega), Option.bind_some, if_pos rfl, stop_toO h, any_toO]
  by_cases h1 : at_ ≤ now
  · rw [if_pos h1, if_pos h1]
  · rw [if_neg h1, if_neg h1]
    by_cases h2 : 1099511627776 < at_
    · rw [if_pos h2, if_pos h2]
    · rw [if_neg h2, if_neg h2]
      cases h3 : l.any (isId id) with
      | true => rw [if_pos rfl, if_neg (by simp), hj]
      | false =>
        have e : stopL l id = l := by unfold stopL; rw [if_pos (hasId.2 h3)]
        rw [if_neg (by simp)]
        by_cases h4 : 1000 ≤ l.length
        · rw [if_pos (by rw [e]; simp; omega), if_pos ⟨rfl, h4⟩]
        · rw [if_neg (by rw [e]; simp; omega), if_neg (fun h5 => h4 h5.2), hj]
end Go.Proofs.Ytngjohckkgmggaa.H
