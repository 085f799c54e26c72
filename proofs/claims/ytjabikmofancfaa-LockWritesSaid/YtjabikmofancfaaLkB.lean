
import Derived.Test.YtjabikmofancfaaLkA
namespace Go.Proofs.Ytjabikmofancfaa.H
open Go.RowKit Go.Proofs.YtjabikmofancfaaW.PrintWords Go.Proofs.YtjabikmofancfaaW.PrintLast Go.Proofs.Ytjabikmofancfaa.P
set_option linter.unusedVariables false
set_option linter.unusedSimpArgs false

def isH (tx key : Int) (h : S45) : Bool := h.f0 == key && h.f1 == tx

set_option maxHeartbeats 1000000 in
theorem holdsC (x : S45) (tx key : Int) (b1 b2 : Nat) (W : World) (h1 : W.cell? ⟨b1, 0, none⟩ = some (.int .u8 key)) (h2 : W.cell? ⟨b2, 0, none⟩ = some (.int .i64 tx)) :
    Calls Try.prog 24 #[encH x, .pointer (some ⟨b1, 0, none⟩), .pointer (some ⟨b2, 0, none⟩)] W fun e w' => e = .returned (.bool (isH tx key x)) ∧ Below W.heap.size W w' := by
  have hb1 := World.block_lt_of_cell? W _ h1
  have hb2 := World.block_lt_of_cell? W _ h2
  have g1 : ∀ o, (W.alloc o).cell? ⟨b1, 0, none⟩ = some (.int .u8 key) := fun o => by rw [← h1]; exact ((Below.refl W.heap.size W).alloc (Nat.le_refl _) o).cell hb1
  have g2 : ∀ o, (W.alloc o).cell? ⟨b2, 0, none⟩ = some (.int .i64 tx) := fun o => by rw [← h2]; exact ((Below.refl W.heap.size W).alloc (Nat.le_refl _) o).cell hb2
  clear h1 h2 hb1 hb2
  obtain ⟨x0, x1, x2⟩ := x
  unfold encH isH
  have HB := fun o => Aside0.mk ((Below.refl W.heap.size W).alloc (Nat.le_refl _) o)
  cases c1 : (x0 == key) with
  | true =>
    have HE : Aside0 ((x0 == key) = true) := ⟨c1⟩
    go_enter Try.func24, Try.ntmps24
    go_wp2
    go_ret
    exact ⟨by first | rfl | (simp; done), (HB _).out⟩
  | false =>
    go_enter Try.func24, Try.ntmps24
    go_wp2
    go_ret
    exact ⟨by first | rfl | (simp; done), (HB _).out⟩

def findH (l : List S45) (tx key : Int) : Option S45 := l.find? (isH tx key)
def holds (l : List S45) (tx key : Int) : Int := match findH l tx key with | none => 0 | some h => if h.f2 then 2 else 1
def holdsF (l : List S45) (tx key : Int) : Option Int := some (holds l tx key)

theorem idx_find (p : S45 → Bool) (l : List S45) (i : Int) : (l.find? p = none ∧ idx p l i = -1) ∨ ∃ k : Nat, k < l.length ∧ idx p l i = i + k ∧ l.find? p = some (l.getD k z45) := by
  induction l generalizing i with
  | nil => exact .inl ⟨rfl, rfl⟩
  | cons x l ih =>
    by_cases h : p x = true
    · exact .inr ⟨0, by simp, by simp [idx, h], by simp [List.find?, h]⟩
    · have h' : p x = false := by simpa using h
      rcases ih (i + 1) with ⟨a, b⟩ | ⟨k, a, b, c⟩
      · exact .inl ⟨by simp [List.find?, h', a], by simp [idx, h', b]⟩
      · exact .inr ⟨k + 1, by simp; omega, by simp [idx, h', b]; omega, by simp [List.find?, h', c]⟩

set_option maxHeartbeats 1000000 in
theorem holds_calls (A0 : Option Addr) (c0 : Nat) (l0 : List (S45)) (a1 : Int) (a2 : Int) (r : Int) (w : World) (hr0 : Kd.C k45 w A0 l0.length l0) (hc0 : l0.length ≤ c0) (h : holdsF l0 a1 a2 = some r) :
    Calls Try.prog 14 #[.slice A0 l0.length c0, .int .i64 a1, .int .u8 a2] w fun e w' => e = .returned (.int .i64 r) ∧ Below w.heap.size w w' := by
  have hu := Try.underlying45
  have hbig := hr0.2.1
  have HR := Aside0.mk hr0
  have HC := Aside0.mk hc0
  have hrr : r = holds l0 a1 a2 := by unfold holdsF at h; injection h with h; exact h.symm
  have H := Aside0.mk hrr
  clear h hrr hr0 hc0
  have eg := enters_of Try.func24 (by kernel_rfl) rfl
  have HI : ∀ W : World, Below w.heap.size w W → W.cell? ⟨w.heap.size + 1, 0, none⟩ = some (.int .u8 a2) → W.cell? ⟨w.heap.size, 0, none⟩ = some (.int .i64 a1) → w.heap.size + 1 < W.heap.size →
      Calls Try.prog 23 #[.slice A0 l0.length c0, .func (.func 24) #[] #[.pointer (some ⟨w.heap.size + 1, 0, none⟩), .pointer (some ⟨w.heap.size, 0, none⟩)]] W fun e w' => e = .returned (.int .i64 (idx (isH a1 a2) l0 0)) ∧ Below W.heap.size W w' := by
    intro W hb h1 h2 hlt
    refine indexFunc (isH a1 a2) 24 _ eg A0 c0 l0 W (Kd.C_below HR.out hb) ?_
    intro W' x hb'
    refine (holdsC x a1 a2 _ _ W' ((hb'.cell (by exact hlt)).trans h1) ((hb'.cell (by show w.heap.size < _; omega)).trans h2)).mono ?_
    rintro e w' ⟨he, hb2⟩
    exact ⟨he, hb2⟩
  have HII := Aside0.mk HI
  clear HI
  rcases idx_find (isH a1 a2) l0 0 with ⟨hf, hi⟩ | ⟨k, hk, hi, hf⟩
  · rw [hi] at HII
    have H' : Aside0 (r = 0) := ⟨by rw [H.out]; unfold holds findH; rw [hf]⟩
    clear hi hf H
    go_enter Try.func14, Try.ntmps14
    go_wp2_with (go_at_call 23; refine (HII.out _ (by exact below_alloc (below_alloc (Below.refl _ _) _) _) (by go_simp) (by go_simp) (by simp)).mono ?_; rintro e w' ⟨rfl, hb⟩)
    go_ret
    exact ⟨by rw [H'.out]; rfl, below_then (below_alloc (below_alloc (Below.refl _ _) _) _) (by simp; omega) hb⟩
  · rw [show (0 : Int) + (k : Int) = (k : Int) from by omega] at hi
    have hx := hi
    rw [hi] at HII
    obtain ⟨ad, e0, h0, h1, h2⟩ := at_T45 HR.out (k : Int) (by omega) (by omega)
    rw [show rd_T45 l0 (k : Int) = l0.getD k z45 from rfl] at h0 h1 h2
    have H' : Aside0 (r = if (l0.getD k z45).f2 then 2 else 1) := ⟨by rw [H.out]; unfold holds findH; rw [hf]⟩
    clear hi hx hf H
    generalize l0.getD k z45 = y at h0 h1 h2 H'
    cases e0
    obtain ⟨kk, hkk⟩ : ∃ kk : Int, kk = (k : Int) := ⟨_, rfl⟩
    rw [← hkk] at HII h0 h1 h2
    have p0 : 0 ≤ kk := by omega
    have p1 : kk < (l0.length : Int) := by omega
    clear hkk hk
    have q0 : (0 ≤ kk) = True := eq_true p0
    have q1 : (kk < (l0.length : Int)) = True := eq_true p1
    have q2 : decide (kk < 0) = false := decide_eq_false (by omega)
    have q3 : decide (kk < (l0.length : Int)) = true := decide_eq_true p1
    clear p0 p1
    have hlt := World.block_lt_of_cell? w _ h2
    have HF := Aside0.mk (fun (W : World) (hb : Below w.heap.size w W) => (hb.cell hlt).trans h2)
    clear h0 h1 h2 hlt
    cases c1 : y.f2 with
    | true =>
      rw [c1] at HF H'
      clear c1
      go_enter Try.func14, Try.ntmps14
      go_wp2_with (go_at_call 23; refine (HII.out _ (by exact below_alloc (below_alloc (Below.refl _ _) _) _) (by go_simp) (by go_simp) (by simp)).mono ?_; rintro e w' ⟨rfl, hb⟩; have hBB := below_then (below_alloc (below_alloc (Below.refl _ _) _) _) (by simp; omega) hb; have hF := HF.out _ hBB; have HBB := Aside0.mk hBB; clear hb hBB)
      go_ret
      exact ⟨by rw [H'.out]; rfl, HBB.out⟩
    | false =>
      rw [c1] at HF H'
      clear c1
      go_enter Try.func14, Try.ntmps14
      go_wp2_with (go_at_call 23; refine (HII.out _ (by exact below_alloc (below_alloc (Below.refl _ _) _) _) (by go_simp) (by go_simp) (by simp)).mono ?_; rintro e w' ⟨rfl, hb⟩; have hBB := below_then (below_alloc (below_alloc (Below.refl _ _) _) _) (by simp; omega) hb; have hF := HF.out _ hBB; have HBB := Aside0.mk hBB; clear hb hBB)
      go_ret
      exact ⟨by rw [H'.out]; rfl, HBB.out⟩
end Go.Proofs.Ytjabikmofancfaa.H
