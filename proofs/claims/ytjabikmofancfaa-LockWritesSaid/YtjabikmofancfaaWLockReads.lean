/- Any many may read a key at once, as long as nobody writes it: the walk of the law LockReads, and the plain law beneath it. No condition. -/

import Derived.Test.YtjabikmofancfaaP7
import Derived.Test.YtjabikmofancfaaWLockAgain
namespace Go.Proofs.Ytjabikmofancfaa.H
open Go.RowKit Go.Proofs.YtjabikmofancfaaW.PrintWords Go.Proofs.YtjabikmofancfaaW.PrintLast Go.Proofs.Ytjabikmofancfaa.P
set_option linter.unusedVariables false
set_option linter.unusedSimpArgs false

/-- The locks of those who have read so far. -/
structure Rd (K : Int) (x : List S45) (had : List Int) : Prop where
  may : RightP x
  all : ∀ h ∈ x, h.f0 = K ∧ h.f2 = false
  who : ∀ t, t ∈ had ↔ ∃ h ∈ x, h.f1 = t
  len : x.length ≤ had.length

theorem Rd.step {K t : Int} {x : List S45} {had : List Int} (h : Rd K x had) (hm : mayB t K = true) : (takeP x t K false).2 = 0 ∧ Rd K (takeP x t K false).1 (had ++ [t]) := by
  have hc : x.any (confl t K false) = false := by
    rw [List.any_eq_false]
    intro y hy
    unfold confl
    simp [(h.all y hy).2]
  obtain ⟨hR, h0⟩ := take_right h.may hm false hc
  refine ⟨h0, hR, ?_, ?_, ?_⟩
  all_goals obtain ⟨A, B, hcut, ⟨_, ht, _⟩ | ⟨y, C, rfl, e0, e1, ht, _, _⟩⟩ := take_cut h.may hm false hc
  · rw [ht]
    intro z hz
    rcases List.mem_append.1 hz with hz | hz
    · exact h.all z (by rw [hcut.eq]; simp [hz])
    · rcases List.mem_cons.1 hz with rfl | hz
      · exact ⟨rfl, rfl⟩
      · exact h.all z (by rw [hcut.eq]; simp [hz])
  · rw [ht]
    have hy := h.all y (by rw [hcut.eq]; simp)
    intro z hz
    rcases List.mem_append.1 hz with hz | hz
    · exact h.all z (by rw [hcut.eq]; simp [hz])
    · rcases List.mem_cons.1 hz with rfl | hz
      · exact ⟨rfl, by show (y.f2 || false) = false; rw [hy.2]; rfl⟩
      · exact h.all z (by rw [hcut.eq]; simp [hz])
  · rw [ht]
    intro a
    rw [List.mem_append, h.who a, hcut.eq]
    simp only [List.mem_append, List.mem_cons, List.mem_singleton, List.not_mem_nil, or_false]
    constructor
    · rintro (⟨z, hz, rfl⟩ | rfl)
      · rcases hz with hz | hz
        · exact ⟨z, .inl hz, rfl⟩
        · exact ⟨z, .inr (.inr hz), rfl⟩
      · exact ⟨_, .inr (.inl rfl), rfl⟩
    · rintro ⟨z, hz | rfl | hz, rfl⟩
      · exact .inl ⟨z, .inl hz, rfl⟩
      · exact .inr rfl
      · exact .inl ⟨z, .inr hz, rfl⟩
  · rw [ht]
    intro a
    rw [List.mem_append, h.who a, hcut.eq]
    simp only [List.mem_append, List.mem_cons, List.mem_singleton, List.not_mem_nil, or_false]
    constructor
    · rintro (⟨z, hz, rfl⟩ | rfl)
      · rcases hz with hz | rfl | hz
        · exact ⟨z, .inl hz, rfl⟩
        · exact ⟨_, .inr (.inl rfl), e1.symm⟩
        · exact ⟨z, .inr (.inr hz), rfl⟩
      · exact ⟨_, .inr (.inl rfl), rfl⟩
    · rintro ⟨z, hz | rfl | hz, rfl⟩
      · exact .inl ⟨z, .inl hz, rfl⟩
      · exact .inr rfl
      · exact .inl ⟨z, .inr (.inr hz), rfl⟩
  · rw [ht]
    have := h.len
    rw [hcut.eq] at this
    simp at this ⊢
    omega
  · rw [ht]
    have := h.len
    rw [hcut.eq] at this
    simp at this ⊢
    omega

theorem Rd.holds {K t : Int} {x : List S45} {had : List Int} (h : Rd K x had) (ht : t ∈ had) : holds x t K = 1 := by
  obtain ⟨y, hy, hyt⟩ := (h.who t).1 ht
  have hs : (x.find? (isH t K)).isSome = true := by
    rw [List.find?_isSome]
    exact ⟨y, hy, by unfold isH; simp [(h.all y hy).1, hyt]⟩
  obtain ⟨z, hz⟩ := Option.isSome_iff_exists.1 hs
  unfold H.holds findH
  rw [hz]
  simp [(h.all z (List.mem_of_find?_eq_some hz)).2]

theorem Rd.alone {K : Int} {x : List S45} {had : List Int} (h : Rd K x had) (hm : mayB 0 K = true) : ((takeP x 0 K true).2 == 0) = had.all (· == 0) := by
  cases hc : x.any (confl 0 K true) with
  | false =>
    rw [(take_right h.may hm true hc).2]
    symm
    show had.all (· == 0) = true
    rw [List.all_eq_true]
    intro t ht
    obtain ⟨y, hy, rfl⟩ := (h.who t).1 ht
    have := (List.any_eq_false.1 hc) y hy
    unfold confl at this
    simpa [(h.all y hy).1] using this
  | true =>
    have : (takeP x 0 K true).2 = 9 := by
      unfold takeP
      rw [if_neg (by rw [(right_iff x).2 h.may]; simp), if_neg (by rw [hm]; simp), if_pos hc]
    rw [this]
    symm
    show had.all (· == 0) = false
    rw [List.all_eq_false]
    obtain ⟨y, hy, hyc⟩ := List.any_eq_true.1 hc
    refine ⟨y.f1, (h.who _).2 ⟨y, hy, rfl⟩, ?_⟩
    unfold confl at hyc
    simp at hyc ⊢
    exact hyc.2

theorem rdI (l : List Int) (i : Nat) (h : i < l.length) : rd l (i : Int) = l[i] := by unfold rd; rw [Int.toNat_natCast, List.getD_eq_getElem?_getD, List.getElem?_eq_getElem h]; rfl

theorem reads_l2 (x : List S45) (e : Int) (had : List Int) (hl : had.length ≤ 5000) (d : Nat) : ∀ (k i : Nat) (b : Bool), i + d = had.length → d < k →
    waystationlaw07_LockReads.l2 k x e b had (had.length : Int) (i : Int) = if ((e == 0) == (b && (had.drop i).all (· == 0))) = true then some (right x) else some false := by
  induction d with
  | zero =>
    intro k i b hi hk
    obtain ⟨k, rfl⟩ : ∃ m, k = m + 1 := ⟨k - 1, by omega⟩
    simp only [waystationlaw07_LockReads.l2]
    rw [if_neg (by omega), List.drop_of_length_le (by omega), rightF_is]
    simp
  | succ d ih =>
    intro k i b hi hk
    obtain ⟨k, rfl⟩ : ∃ m, k = m + 1 := ⟨k - 1, by omega⟩
    simp only [waystationlaw07_LockReads.l2]
    rw [if_pos (by omega), if_pos (by omega), if_pos (by omega), w64 i (by omega), rdI had i (by omega), drop_at had i (by omega), List.all_cons]
    cases b with
    | true => rw [if_pos rfl, ih k (i + 1) _ (by omega) (by omega)]; simp
    | false => rw [if_neg (by simp), ih k (i + 1) _ (by omega) (by omega)]; simp

theorem reads_l1 {K : Int} {x : List S45} {had : List Int} (h : Rd K x had) (hm : mayB 0 K = true) (hl : had.length ≤ 5000) (d : Nat) : ∀ (k i : Nat), i + d = had.length → d + had.length + 5 ≤ k →
    waystationlaw07_LockReads.l1 k K x had had (had.length : Int) (i : Int) = some true := by
  induction d with
  | zero =>
    intro k i hi hk
    obtain ⟨k, rfl⟩ : ∃ m, k = m + 1 := ⟨k - 1, by omega⟩
    simp only [waystationlaw07_LockReads.l1]
    rw [if_neg (by omega), takeF_is _ _ _ _ (by have := h.len; omega), Option.bind_some]
    have := reads_l2 x (takeP x 0 K true).2 had hl had.length k 0 true (by omega) (by omega)
    rw [show ((0 : Nat) : Int) = 0 from rfl] at this
    rw [this, h.alone hm, (right_iff x).2 h.may]
    simp
  | succ d ih =>
    intro k i hi hk
    obtain ⟨k, rfl⟩ : ∃ m, k = m + 1 := ⟨k - 1, by omega⟩
    simp only [waystationlaw07_LockReads.l1]
    rw [if_pos (by omega), if_pos (by omega), if_pos (by omega), rdI had i (by omega), holdsF_is, Option.bind_some, h.holds (List.getElem_mem _), if_pos rfl, w64 i (by omega)]
    exact ih k (i + 1) (by omega) (by omega)

theorem reads_l0 {K : Int} (h0 : 0 ≤ K) (h1 : K < 64) (l : List Int) (hQ : ∀ y ∈ l, 0 ≤ y ∧ y < 65536) (d : Nat) : ∀ (k i : Nat) (x : List S45) (had : List Int), i + d = 100 → Rd K x had → had.length = i → i ≤ l.length → 2 * d + 1000 ≤ k →
    waystationlaw07_LockReads.l0 k l K x had (i : Int) = some true := by
  have hm0 : mayB 0 K = true := by unfold mayB; simp [h1]
  have fin : ∀ (k : Nat) (x : List S45) (had : List Int), Rd K x had → had.length ≤ 100 → 800 ≤ k → waystationlaw07_LockReads.l1 k K x had had (had.length : Int) 0 = some true := fun k x had h hh hk => by
    have := reads_l1 h hm0 (by omega) had.length k 0 (by omega) (by omega)
    simpa using this
  induction d with
  | zero =>
    intro k i x had hi h hh hil hk
    obtain ⟨k, rfl⟩ : ∃ m, k = m + 2 := ⟨k - 2, by omega⟩
    simp only [waystationlaw07_LockReads.l0, waystationlaw07_LockReads.j1]
    by_cases c : (i : Int) < (l.length : Int)
    · rw [if_pos c, if_neg (by simp; omega)]
      exact fin k x had h (by omega) (by omega)
    · rw [if_neg c, if_neg (by simp)]
      exact fin k x had h (by omega) (by omega)
  | succ d ih =>
    intro k i x had hi h hh hil hk
    obtain ⟨k, rfl⟩ : ∃ m, k = m + 2 := ⟨k - 2, by omega⟩
    obtain ⟨m, hm⟩ : ∃ m, m = k := ⟨_, rfl⟩
    rw [← hm]
    simp only [waystationlaw07_LockReads.l0, waystationlaw07_LockReads.j1]
    by_cases c : (i : Int) < (l.length : Int)
    · have hy := hQ l[i] (List.getElem_mem (by omega))
      have ht : Int.tmod (wrap64 (rd l (i : Int))) 1000 = l[i] % 1000 := by
        rw [rdI l i (by omega), show wrap64 l[i] = l[i] from by unfold wrap64; omega, Int.tmod_eq_emod_of_nonneg hy.1]
      rw [if_pos c, if_pos (by simp; omega), if_pos (show (0 : Int) ≤ (i : Int) by omega), if_pos c, ht]
      obtain ⟨e0, hR⟩ := h.step (t := l[i] % 1000) (by unfold mayB; simp [h1]; omega)
      rw [takeF_is _ _ _ _ (by have := h.len; omega), Option.bind_some, if_pos e0, if_pos (show had.length < 17592186044416 by omega), w64 i (by omega), hm]
      exact ih k (i + 1) _ _ (by omega) hR (by simp [hh]) (by omega) (by omega)
    · rw [if_neg c, if_neg (by simp), hm]
      exact fin k x had h (by omega) (by omega)

theorem LockReads_pure (l : List Int) (a : Int) (hQ : ∀ y ∈ l, 0 ≤ y ∧ y < 65536) (ha : 0 ≤ a ∧ a < 256) : ∃ k, waystationlaw07_LockReads.f k l a = some true := by
  refine ⟨2000, ?_⟩
  unfold waystationlaw07_LockReads.f
  rw [alive_is, Option.bind_some, if_pos rfl]
  have hK : Int.tmod a 64 = a % 64 := Int.tmod_eq_emod_of_nonneg ha.1
  rw [hK]
  exact reads_l0 (K := a % 64) (by omega) (by omega) l hQ 100 2000 0 [] [] (by omega) ⟨⟨by simp, List.Pairwise.nil⟩, by simp, by simp, by simp⟩ rfl (by omega) (by omega)

theorem wf16 {y : Int} (h : (Lit.int .u16 y).wf = true) : 0 ≤ y ∧ y < 65536 := by
  have h2 : IntKind.u16.min ≤ y ∧ y ≤ IntKind.u16.max := by simpa [Lit.wf] using h
  exact ⟨h2.1, Int.lt_of_le_of_lt h2.2 (by decide)⟩
theorem wf8 {y : Int} (h : (Lit.int .u8 y).wf = true) : 0 ≤ y ∧ y < 256 := by
  have h2 : IntKind.u8.min ≤ y ∧ y ≤ IntKind.u8.max := by simpa [Lit.wf] using h
  exact ⟨h2.1, Int.lt_of_le_of_lt h2.2 (by decide)⟩

theorem LockReads_walk (A0 : Option Addr) (c0 : Nat) (l0 : List Int) {w : World} (hr0 : Kd.C (Kd.int .u16) w A0 l0.length l0) (hc0 : l0.length ≤ c0) (hQ : ∀ y ∈ l0, (Lit.int .u16 y).wf = true)
    (a1 : Int) (w1 : (Lit.int .u8 a1).wf = true) :
    Calls Try.prog 4 #[.slice A0 l0.length c0, .int .u8 a1] w fun e w' => e = .returned (.bool true) ∧ Below w.heap.size w w' := by
  obtain ⟨k, hk⟩ := LockReads_pure l0 a1 (fun y hy => wf16 (hQ y hy)) (wf8 w1)
  exact waystationlaw07_LockReads.calls k A0 c0 l0 a1 true w hr0 hc0 hk
end Go.Proofs.Ytjabikmofancfaa.H
