
import Derived.Test.YtjabikmofancfaaP0
import Derived.Shelf.Abstract
namespace Go.Proofs.Ytjabikmofancfaa.H
open Go.RowKit Go.Proofs.YtjabikmofancfaaW.PrintWords Go.Proofs.YtjabikmofancfaaW.PrintLast Go.Proofs.Ytjabikmofancfaa.P
set_option linter.unusedVariables false
set_option linter.unusedSimpArgs false

/-- A hold as a value. -/
abbrev encH (x : S45) : Value := .agg #[.int .u8 x.f0, .int .i64 x.f1, .bool x.f2]

/-- What is asked of a predicate's function. -/
def PredH (g : Nat) (lb : Array Value) (p : S45 → Bool) (w : World) : Prop :=
  ∀ (W : World) (x : S45), Below w.heap.size w W → Calls Try.prog g (#[encH x] ++ lb) W fun e w' => e = .returned (.bool (p x)) ∧ Below W.heap.size W w'

/-- The first place from i on. -/
def idx (p : S45 → Bool) : List S45 → Int → Int
  | [], _ => -1
  | x :: l, i => if p x then i else idx p l (i + 1)

theorem idx_none (p : S45 → Bool) (l : List S45) (i : Int) (h : ∀ x ∈ l, p x = false) : idx p l i = -1 := by
  induction l generalizing i with
  | nil => rfl
  | cons x l ih => simp [idx, h x (by simp), ih (i + 1) (fun y hy => h y (by simp [hy]))]

theorem idx_hit (p : S45 → Bool) (l : List S45) (k : Nat) (i : Int) (hk : k < l.length) (hp : p (l.getD k z45) = true) (h : ∀ j, j < k → p (l.getD j z45) = false) : idx p l i = i + k := by
  induction l generalizing i k with
  | nil => simp at hk
  | cons x l ih =>
    cases k with
    | zero => simp [idx] at *; intro h; rw [h] at hp; simp at hp
    | succ k =>
      have h0 := h 0 (by omega)
      simp at h0 hp hk
      rw [idx, h0, if_neg (by simp), ih k (i + 1) hk (by simpa using hp) (fun j hj => by simpa using h (j + 1) (by omega))]
      push_cast
      omega

set_option maxHeartbeats 2000000 in
theorem indexFunc (p : S45 → Bool) (g : Nat) (lb : Array Value) (eg : ∀ args w, (callFunc g args).run Try.prog w = .ok (.enter g args) w) (A : Option Addr) (c : Nat) (l : List S45) (w : World)
    (hr : Kd.C k45 w A l.length l) (hp : PredH g lb p w) :
    Calls Try.prog 23 #[.slice A l.length c, .func (.func g) #[] lb] w fun e w' => e = .returned (.int .i64 (idx p l 0)) ∧ Below w.heap.size w w' := by
  have hu := Try.underlying45
  have hbig := hr.2.1
  have HR := Aside0.mk hr
  have HP := Aside0.mk hp
  clear hr hp
  go_enter Try.func23, Try.ntmps23
  go_wp2
  go_loopg [5, 8] l.length (fun gg _ s8 wr => ∃ kk : Int, s8 = .int .i64 kk ∧ Aside0 (0 ≤ kk ∧ kk ≤ l.length ∧ l.length - kk.toNat ≤ gg) ∧ Aside0 (Below w.heap.size w wr) ∧ Aside0 (∀ j, j < kk.toNat → p (l.getD j z45) = false))
  case atStart => exact ⟨0, rfl, ⟨by omega, by omega, by omega⟩, ⟨Below.refl _ w⟩, ⟨fun j hj => absurd hj (Nat.not_lt_zero _)⟩⟩
  case round =>
    obtain ⟨kk, rfl, HK, BW, AF⟩ := hrel
    have p0 : 0 ≤ kk := HK.out.1
    by_cases hlt : kk < (l.length : Int)
    · obtain ⟨ad, e0, h0, h1, h2⟩ := at_T45 HR.out kk p0 hlt
      cases e0
      replace h0 := (BW.out.cell (World.block_lt_of_cell? w _ h0)).trans h0
      replace h1 := (BW.out.cell (World.block_lt_of_cell? w _ h1)).trans h1
      replace h2 := (BW.out.cell (World.block_lt_of_cell? w _ h2)).trans h2
      generalize hy : rd_T45 l kk = y at h0 h1 h2
      have B := Aside0.mk hy
      clear hy
      have HC := Aside0.mk (HP.out wr y BW.out)
      have HL := Aside0.mk hlt
      have cb : decide (kk < (l.length : Int)) = true := decide_eq_true hlt
      have q0 : (0 ≤ kk) = True := eq_true p0
      have q1 : (kk < (l.length : Int)) = True := eq_true hlt
      clear hlt p0
      cases hq : p y with
      | true =>
        have HQ := Aside0.mk hq
        rw [hq] at HC
        clear hq
        go_wp2_with (go_at_fn g; refine HC.out.mono ?_; rintro e w' ⟨rfl, hb0⟩; have hb' := below_then BW.out BW.out.size hb0; clear hb0)
        go_ret
        refine ⟨?_, hb'⟩
        have h := idx_hit p l kk.toNat 0 (by have := HL.out; have := of_eq_true q0; omega) (by have := B.out; unfold rd_T45 at this; rw [this]; exact HQ.out) AF.out
        rw [h, Int.zero_add, Int.toNat_of_nonneg (of_eq_true q0)]
        rfl
      | false =>
        have HQ := Aside0.mk hq
        rw [hq] at HC
        clear hq
        have hw1 : wrap64 (kk + 1) = kk + 1 := by have := HL.out; have := of_eq_true q0; unfold wrap64; omega
        go_wp2_with (go_at_fn g; refine HC.out.mono ?_; rintro e w' ⟨rfl, hb0⟩; have hb' := below_then BW.out BW.out.size hb0; clear hb0)
        go_roundg (l.length - (kk.toNat + 1))
        case measure => have := HK.out; have := HL.out; omega
        case rel =>
          refine ⟨kk + 1, by first | rfl | (simp [hw1]; done), ⟨by have := HK.out; omega, by have := HL.out; omega, by have := HK.out; omega⟩, ⟨hb'⟩, ⟨fun j hj => ?_⟩⟩
          by_cases e : j = kk.toNat
          · subst e
            have := B.out; unfold rd_T45 at this; rw [this]; exact HQ.out
          · exact AF.out j (by omega)
    · have cb : decide (kk < (l.length : Int)) = false := decide_eq_false hlt
      have HL := Aside0.mk hlt
      clear hlt p0
      go_wp2
      go_ret
      refine ⟨?_, BW.out⟩
      rw [idx_none p l 0 (fun x hx => by
        obtain ⟨j, hj, rfl⟩ := List.mem_iff_getElem.1 hx
        have := AF.out j (by have := HL.out; have := HK.out; omega)
        rwa [List.getD_eq_getElem?_getD, List.getElem?_eq_getElem hj] at this)]
      rfl
end Go.Proofs.Ytjabikmofancfaa.H
