/- Who is freed holds nothing, all others what they held, and twice is as once: the walk of the law LockFrees, and the plain law beneath it. No condition. -/

import Derived.Test.YtjabikmofancfaaP8
import Derived.Test.YtjabikmofancfaaWLockAgain
namespace Go.Proofs.Ytjabikmofancfaa.H
open Go.RowKit Go.Proofs.YtjabikmofancfaaW.PrintWords Go.Proofs.YtjabikmofancfaaW.PrintLast Go.Proofs.Ytjabikmofancfaa.P
set_option linter.unusedVariables false
set_option linter.unusedSimpArgs false

theorem holds_keep (l : List S45) (tx tx' key : Int) : holds (keep (ofTx tx) l) tx' key = if tx' = tx then 0 else holds l tx' key := by
  unfold holds findH keep
  rw [List.find?_filter]
  by_cases h : tx' = tx
  · rw [if_pos h, List.find?_eq_none.2 (fun a _ => by
      unfold ofTx isH
      simp only [decide_eq_true_iff, Bool.not_eq_true', beq_eq_false_iff_ne, Bool.and_eq_true, beq_iff_eq]
      rintro ⟨h1, _, h2⟩
      omega)]
  · rw [if_neg h, show (fun a => decide ((!ofTx tx a) = true ∧ isH tx' key a = true)) = isH tx' key from by
      funext a
      rw [Bool.eq_iff_iff, decide_eq_true_iff]
      unfold ofTx isH
      simp only [Bool.not_eq_true', beq_eq_false_iff_ne, Bool.and_eq_true, beq_iff_eq]
      constructor
      · rintro ⟨_, h⟩; exact h
      · rintro ⟨h0, h1⟩; exact ⟨by omega, h0, h1⟩]
theorem keep_keep (l : List S45) (tx : Int) : keep (ofTx tx) (keep (ofTx tx) l) = keep (ofTx tx) l := by
  unfold keep
  rw [List.filter_filter]
  congr 1
  funext a
  simp
theorem keep_right {l : List S45} (h : RightP l) (p : S45 → Bool) : RightP (keep p l) := ⟨fun a ha => h.may a (List.mem_filter.1 ha).1, h.two.filter _⟩

theorem frees_l0 (l : List S46) (tx : Int) (x : List S45) (hx : ∀ h ∈ x, h.f1 ≠ tx) (hl : x.length ≤ 5000) (K : Nat) (R : Bool) (hR : ∀ k, K ≤ k → waystationlaw07_LockFrees.l1 k l tx x l (l.length : Int) 0 = some R) (d : Nat) :
    ∀ (k i : Nat), i + d = x.length → K + d + 1 ≤ k → waystationlaw07_LockFrees.l0 k l tx x x (x.length : Int) (i : Int) = some R := by
  induction d with
  | zero =>
    intro k i hi hk
    obtain ⟨k, rfl⟩ : ∃ m, k = m + 1 := ⟨k - 1, by omega⟩
    simp only [waystationlaw07_LockFrees.l0]
    rw [if_neg (by omega), hR k (by omega)]
  | succ d ih =>
    intro k i hi hk
    obtain ⟨k, rfl⟩ : ∃ m, k = m + 1 := ⟨k - 1, by omega⟩
    simp only [waystationlaw07_LockFrees.l0]
    rw [if_pos (by omega), if_pos (by omega), if_pos (by omega), rdL x i (by omega), if_neg (hx _ (List.getElem_mem _)), w64 i (by omega)]
    exact ih k (i + 1) (by omega) (by omega)

theorem LockFrees_pure (l : List S46) (tx : Int) : ∃ k, waystationlaw07_LockFrees.f k l tx = some true := by
  by_cases hl : (l.length : Int) > 100
  · refine ⟨1, ?_⟩
    unfold waystationlaw07_LockFrees.f
    rw [alive_is, Option.bind_some, if_pos rfl, if_pos hl]
  · obtain ⟨K0, R, h1, h2⟩ := rright_is l (by omega)
    have hlen : (l.map toL).length = l.length := by simp
    have hkl := keep_len (ofTx tx) (l.map toL)
    have last : ∀ k, K0 + 500 ≤ k → ∀ d i : Nat, i + d = l.length → d ≤ 200 → waystationlaw07_LockFrees.l1 (k + d + 1) l tx (keep (ofTx tx) (l.map toL)) l (l.length : Int) (i : Int) = some true := by
      intro k hk d
      induction d with
      | zero =>
        intro i hi _
        simp only [waystationlaw07_LockFrees.l1]
        rw [if_neg (by omega), freeF_is _ _ (by omega), Option.bind_some, keep_keep]
        simp only [Nat.add_zero, ours_is _ (show (keep (ofTx tx) (l.map toL)).length ≤ 5864062014805 by omega) k (by omega), Option.bind_some, same_is _ (show ((keep (ofTx tx) (l.map toL)).map toR).length ≤ 5864062014805 by simp; omega) k (by simp; omega), h1 k (by omega), if_true]
        cases R with
        | false => simp
        | true =>
          simp only [if_true, rightF_is, Option.bind_some]
          rw [(right_iff _).2 (keep_right (h2.1 rfl) _)]
      | succ d ih =>
        intro i hi hd
        obtain ⟨m, hm⟩ : ∃ m, m = k + d + 1 := ⟨_, rfl⟩
        rw [show k + (d + 1) + 1 = m + 1 from by omega]
        simp only [waystationlaw07_LockFrees.l1]
        rw [if_pos (by omega), if_pos (by omega), if_pos (by omega), theirs_is l (by omega) _ (by omega), Option.bind_some, rdR l i (by omega), w64 i (by omega)]
        simp only [holdsF_is, Option.bind_some, holds_keep]
        have hn := ih (i + 1) (by omega) (by omega)
        rw [← hm] at hn
        rw [hn]
        by_cases h : (l[i]'(by omega)).f1 = tx
        · rw [if_pos h, if_pos h, if_pos rfl]
        · rw [if_neg h, if_neg h, if_pos rfl]
    have hx : ∀ h ∈ keep (ofTx tx) (l.map toL), h.f1 ≠ tx := by
      intro h hm he
      have := (List.mem_filter.1 hm).2
      unfold ofTx at this
      simp [he] at this
    refine ⟨K0 + 5000, ?_⟩
    unfold waystationlaw07_LockFrees.f
    rw [alive_is, Option.bind_some, if_pos rfl, if_neg hl, theirs_is l (by omega) _ (by omega), Option.bind_some, freeF_is _ _ (by omega), Option.bind_some]
    have := frees_l0 l tx (keep (ofTx tx) (l.map toL)) hx (by omega) (K0 + 1000) true (fun k hk => by
      have := last (k - l.length - 1) (by omega) l.length 0 (by omega) (by omega)
      rwa [show k - l.length - 1 + l.length + 1 = k from by omega] at this) (keep (ofTx tx) (l.map toL)).length (K0 + 5000) 0 (by omega) (by omega)
    simpa using this

theorem LockFrees_walk (A0 : Option Addr) (c0 : Nat) (l0 : List S46) {w : World} (hr0 : Kd.C k46 w A0 l0.length l0) (hc0 : l0.length ≤ c0) (hQ : ∀ y ∈ l0, (Lit.int .u8 (y.f0, y.f1, y.f2).1).wf = true ∧ (Lit.int .i64 (y.f0, y.f1, y.f2).2.1).wf = true ∧ True)
    (a1 : Int) (w1 : (Lit.int .i64 a1).wf = true) :
    Calls Try.prog 5 #[.slice A0 l0.length c0, .int .i64 a1] w fun e w' => e = .returned (.bool true) ∧ Below w.heap.size w w' := by
  obtain ⟨k, hk⟩ := LockFrees_pure l0 a1
  exact waystationlaw07_LockFrees.calls k A0 c0 l0 a1 true w hr0 hc0 hk
end Go.Proofs.Ytjabikmofancfaa.H
