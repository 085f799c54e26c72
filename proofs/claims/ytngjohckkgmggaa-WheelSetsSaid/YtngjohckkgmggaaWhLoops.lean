/- What the printed helpers of the wheel's laws answer, in plain Lean. -/

import Derived.Test.YtngjohckkgmggaaWheelHand
import Derived.Test.YtngjohckkgmggaaP2
import Derived.Test.YtngjohckkgmggaaP3
namespace Go.Proofs.Ytngjohckkgmggaa.H
open Go.RowKit Go.Proofs.YtngjohckkgmggaaW.PrintWords Go.Proofs.YtngjohckkgmggaaW.PrintLast Go.Proofs.Ytngjohckkgmggaa.P
set_option linter.unusedVariables false
set_option linter.unusedSimpArgs false

def toT (h : S46) : S64 := ⟨h.f0, h.f1⟩
def toO (h : S64) : S46 := ⟨h.f0, h.f1⟩
theorem toT_toO (h : S64) : toT (toO h) = h := rfl
theorem toO_toT (h : S46) : toO (toT h) = h := rfl
theorem w64 (i : Nat) (h : i < 9223372036854775807) : wrap64 ((i : Int) + 1) = ((i + 1 : Nat) : Int) := by unfold wrap64; omega
theorem drop_at {α : Type} (l : List α) (i : Nat) (h : i < l.length) : l.drop i = l[i] :: l.drop (i + 1) := List.drop_eq_getElem_cons h
theorem rdT (l : List S64) (i : Nat) (h : i < l.length) : rd_T64 l (i : Int) = l[i] := by unfold rd_T64; rw [Int.toNat_natCast, List.getD_eq_getElem?_getD, List.getElem?_eq_getElem h]; rfl
theorem rdO (l : List S46) (i : Nat) (h : i < l.length) : rd_T46 l (i : Int) = l[i] := by unfold rd_T46; rw [Int.toNat_natCast, List.getD_eq_getElem?_getD, List.getElem?_eq_getElem h]; rfl

theorem theirs_loop (now : Int) (l : List S46) (hl : l.length ≤ 5864062014805) (d : Nat) : ∀ (k i : Nat) (acc : List S64), i + d = l.length → d < k → acc.length = i → waystationlaw06_Theirs.l0 k l (l.length : Int) (i : Int) now acc = some (now, acc ++ (l.drop i).map toT) := by
  induction d with
  | zero =>
    intro k i acc hi hk ha
    obtain ⟨k, rfl⟩ : ∃ m, k = m + 1 := ⟨k - 1, by omega⟩
    simp only [waystationlaw06_Theirs.l0]
    rw [if_neg (by omega), List.drop_of_length_le (by omega)]
    simp
  | succ d ih =>
    intro k i acc hi hk ha
    obtain ⟨k, rfl⟩ : ∃ m, k = m + 1 := ⟨k - 1, by omega⟩
    simp only [waystationlaw06_Theirs.l0]
    rw [if_pos (by omega), if_pos (by omega), if_pos (by omega), if_pos (by omega), w64 i (by omega), ih k (i + 1) _ (by omega) (by omega) (by simp [ha]), rdO l i (by omega), drop_at l i (by omega), List.map_cons, List.append_assoc]
    rfl
theorem theirs_is (now : Int) (l : List S46) (hl : l.length ≤ 5864062014805) (k : Nat) (hk : l.length < k) : waystationlaw06_Theirs.f k now l = some (now, l.map toT) := by
  unfold waystationlaw06_Theirs.f
  have := theirs_loop now l hl l.length k 0 [] (by omega) hk rfl
  simpa using this

theorem cmpI_neg (a b : Int) : cmpI a b < 0 ↔ a < b := by unfold cmpI; split <;> (try split) <;> omega
theorem ahead_is (a b : S46) : waystationref06_ahead.f a.f0 a.f1 b.f0 b.f1 = some (!decide (0 ≤ ordI (toT a) (toT b))) := by
  unfold waystationref06_ahead.f ordI orI toT cmpI
  simp only
  by_cases h1 : a.f1 < b.f1
  · rw [if_pos h1]; simp [h1]
  · rw [if_neg h1]
    by_cases h2 : a.f1 = b.f1
    · rw [if_pos h2]
      by_cases h3 : a.f0 < b.f0
      · simp [h1, h2, h3]
      · by_cases h4 : a.f0 > b.f0
        · simp [h1, h2, h3, h4]
        · simp [h1, h2, h3, h4]
    · have h5 : a.f1 > b.f1 := by omega
      rw [if_neg h2]
      simp [h1, h5]

theorem rright_l1 (now : Int) (l : List S46) (i : Nat) (hi : i < l.length) (hl : l.length ≤ 5000) (K : Nat) (R : Bool) (hR : ∀ k, K ≤ k → waystationref06_Right.l0 k ((i + 1 : Nat) : Int) now l = some R) (d : Nat) :
    ∀ (k j : Nat), j + d = i → K + d + 1 ≤ k → waystationref06_Right.l1 k (i : Int) (j : Int) now l (l[i]).f0 (l[i]).f1 = some (!(((l.map toT).take i).drop j).any (fun t => t.f0 == (l[i]).f0) && R) := by
  induction d with
  | zero =>
    intro k j hj hk
    obtain ⟨k, rfl⟩ : ∃ m, k = m + 1 := ⟨k - 1, by omega⟩
    simp only [waystationref06_Right.l1]
    rw [if_neg (by omega), w64 i (by omega), hR k (by omega), List.drop_of_length_le (by simp; omega)]
    simp
  | succ d ih =>
    intro k j hj hk
    obtain ⟨k, rfl⟩ : ∃ m, k = m + 1 := ⟨k - 1, by omega⟩
    simp only [waystationref06_Right.l1]
    rw [if_pos (by omega), if_pos (by omega), if_pos (by omega), rdO l j (by omega), drop_at ((l.map toT).take i) j (by simp; omega), List.any_cons]
    have e : ((l.map toT).take i)[j]'(by simp; omega) = toT l[j] := by simp
    rw [e]
    by_cases h : (l[j]'(by omega)).f0 = l[i].f0
    · rw [if_pos h]
      simp [toT, h]
    · have hb : ((l[j]'(by omega)).f0 == l[i].f0) = false := by simpa using h
      rw [if_neg h, w64 j (by omega), ih k (j + 1) (by omega) (by omega)]
      simp [toT, hb]

theorem mapT_getD (l : List S46) (i : Nat) (hi : i < l.length) : (l.map toT).getD i z64 = toT l[i] := by
  rw [List.getD_eq_getElem?_getD, List.getElem?_map, List.getElem?_eq_getElem hi]; rfl

theorem j1_true (k : Nat) (a b : Int) (l : List S46) (x y : Int) : waystationref06_Right.j1 (k + 1) a true b l x y = some false := by simp [waystationref06_Right.j1]
theorem j1_false (k : Nat) (a b : Int) (l : List S46) (x y : Int) : waystationref06_Right.j1 (k + 1) a false b l x y = waystationref06_Right.l1 k a 0 b l x y := by simp [waystationref06_Right.j1]
theorem rright_l0 (now : Int) (l : List S46) (hl : l.length ≤ 5000) (d : Nat) : ∀ i : Nat, i + d = l.length → ∃ K, ∀ k, K ≤ k → waystationref06_Right.l0 k (i : Int) now l = some (((List.range l.length).drop i).all (okAt now (l.map toT)) && okNow now (l.map toT)) := by
  induction d with
  | zero =>
    intro i hi
    refine ⟨1, fun k hk => ?_⟩
    obtain ⟨k, rfl⟩ : ∃ m, k = m + 1 := ⟨k - 1, by omega⟩
    simp only [waystationref06_Right.l0]
    rw [if_neg (by omega), List.drop_of_length_le (by simp; omega)]
    simp only [List.all_nil, Bool.true_and, okNow, List.length_map]
    by_cases h1 : now ≥ 0
    · rw [if_pos h1]
      by_cases h2 : now ≤ 1099511627776
      · rw [if_pos h2]
        by_cases h3 : (l.length : Int) ≤ 1000
        · simp [h3]; omega
        · simp [h3]; omega
      · rw [if_neg h2]; simp; omega
    · rw [if_neg h1]; simp; omega
  | succ d ih =>
    intro i hi
    obtain ⟨K, hK⟩ := ih (i + 1) (by omega)
    refine ⟨K + l.length + 5, fun k hk => ?_⟩
    obtain ⟨k, rfl⟩ : ∃ m, k = m + 3 := ⟨k - 3, by omega⟩
    have hil : i < l.length := by omega
    have hd : (List.range l.length).drop i = i :: (List.range l.length).drop (i + 1) := by rw [drop_at _ i (by simpa using hil)]; simp
    have h1 := rright_l1 now l i hil hl K _ hK i (k + 1) 0 (by omega) (by omega)
    rw [hd, List.all_cons, Bool.and_assoc]
    have hat : okAt now (l.map toT) i = !(((l.map toT).take i).any (fun t => t.f0 == l[i].f0) || decide (l[i].f1 ≤ now) || decide (1099511627776 < l[i].f1) || decide (0 < i) && decide (0 ≤ ordI ((l.map toT).getD (i - 1) z64) (toT l[i]))) := by
      unfold okAt
      rw [mapT_getD l i hil]
      rfl
    generalize (((List.range l.length).drop (i + 1)).all (okAt now (l.map toT)) && okNow now (l.map toT)) = R at h1 ⊢
    simp only [List.drop_zero] at h1
    simp only [waystationref06_Right.l0]
    rw [if_pos (by omega), if_pos (by omega), rdO l i hil]
    by_cases c1 : l[i].f1 ≤ now
    · rw [if_pos c1]
      rw [j1_true, hat]
      simp [c1]
    · rw [if_neg c1]
      by_cases c2 : l[i].f1 > 1099511627776
      · rw [if_pos c2]
        rw [j1_true, hat]
        simp [c2]
      · rw [if_neg c2]
        by_cases c3 : (i : Int) > 0
        · have e1 : wrap64 ((i : Int) - 1) = ((i - 1 : Nat) : Int) := by unfold wrap64; omega
          rw [if_pos c3, e1, if_pos (by omega), if_pos (by omega), rdO l (i - 1) (by omega), ahead_is, Option.bind_some]
          rw [mapT_getD l (i - 1) (by omega)] at hat
          cases c4 : decide (0 ≤ ordI (toT l[i - 1]) (toT l[i])) with
          | true =>
            rw [show (!(!true)) = true from rfl, j1_true, hat, c4]
            simp; omega
          | false =>
            rw [show (!(!false)) = false from rfl, j1_false, show (0 : Int) = ((0 : Nat) : Int) from rfl, h1, hat, c4]
            simp [c1, c2]
        · rw [if_neg c3]
          obtain rfl : i = 0 := by omega
          rw [j1_false, show (0 : Int) = ((0 : Nat) : Int) from rfl, h1, hat]
          simp [c1]
          omega
theorem rright_is (now : Int) (l : List S46) (hl : l.length ≤ 5000) : ∃ K, ∀ k, K ≤ k → waystationref06_Right.f k now l = some (right now (l.map toT)) := by
  obtain ⟨K, hK⟩ := rright_l0 now l hl l.length 0 (by omega)
  refine ⟨K, fun k hk => ?_⟩
  unfold waystationref06_Right.f right
  have := hK k hk
  rw [List.drop_zero] at this
  rw [show (0 : Int) = ((0 : Nat) : Int) from rfl, this, List.length_map, Bool.and_comm]
end Go.Proofs.Ytngjohckkgmggaa.H
