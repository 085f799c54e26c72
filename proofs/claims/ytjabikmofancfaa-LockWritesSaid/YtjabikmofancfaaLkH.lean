
import Derived.Test.YtjabikmofancfaaLkG
namespace Go.Proofs.Ytjabikmofancfaa.H
open Go.RowKit Go.Proofs.YtjabikmofancfaaW.PrintWords Go.Proofs.YtjabikmofancfaaW.PrintLast Go.Proofs.Ytjabikmofancfaa.P
set_option linter.unusedVariables false
set_option linter.unusedSimpArgs false

def ofTx (tx : Int) (h : S45) : Bool := h.f1 == tx
def freeF (l : List S45) (tx : Int) : Option (List S45) := if l.length ≤ 5864062014805 then some (keep (ofTx tx) l) else none

set_option maxHeartbeats 1000000 in
theorem freeC (x : S45) (tx : Int) (b1 : Nat) (W : World) (h1 : W.cell? ⟨b1, 0, none⟩ = some (.int .i64 tx)) :
    Calls Try.prog 26 #[encH x, .pointer (some ⟨b1, 0, none⟩)] W fun e w' => e = .returned (.bool (ofTx tx x)) ∧ Below W.heap.size W w' := by
  have hb1 := World.block_lt_of_cell? W _ h1
  have g1 : ∀ o, (W.alloc o).cell? ⟨b1, 0, none⟩ = some (.int .i64 tx) := fun o => by rw [← h1]; exact ((Below.refl W.heap.size W).alloc (Nat.le_refl _) o).cell hb1
  clear h1 hb1
  obtain ⟨x0, x1, x2⟩ := x
  unfold encH ofTx
  have HB := fun o => Aside0.mk ((Below.refl W.heap.size W).alloc (Nat.le_refl _) o)
  go_enter Try.func26, Try.ntmps26
  go_wp2
  go_ret
  exact ⟨by first | rfl | (simp; done), (HB _).out⟩

set_option maxHeartbeats 1000000 in
theorem free_calls (A0 : Option Addr) (c0 : Nat) (l0 : List (S45)) (a1 : Int) (r : List (S45)) (w : World) (hr0 : Kd.C k45 w A0 l0.length l0) (hc0 : l0.length ≤ c0) (h : freeF l0 a1 = some r) :
    Calls Try.prog 16 #[.slice A0 l0.length c0, .int .i64 a1] w fun e w' => ∃ v0_ : Value, e = .returned (v0_) ∧ Kd.R k45 45 w' w.heap.size (fun _ => True) v0_ r ∧ Below w.heap.size w w' := by
  have hl : l0.length ≤ 5864062014805 := by
    unfold freeF at h
    split at h
    · assumption
    · cases h
  have hr : r = keep (ofTx a1) l0 := by
    unfold freeF at h
    rw [if_pos hl] at h
    injection h with h
    exact h.symm
  have H := Aside0.mk hr
  have HR := Aside0.mk hr0
  have HL := Aside0.mk hl
  have hbig := hr0.2.1
  clear h hl hr hr0 hc0
  have eg := enters_of Try.func26 (by kernel_rfl) rfl
  have HA : Aside0 (Below w.heap.size w (w.alloc (.cells #[.int .i64 a1] 3))) := ⟨below_alloc (Below.refl _ _) _⟩
  have HC := Aside0.mk (clone_calls A0 c0 l0 (w.alloc (.cells #[.int .i64 a1] 3)) (Kd.C_below HR.out HA.out) HL.out)
  have HD := Aside0.mk (fun v W (hb : Below (w.alloc (.cells #[.int .i64 a1] 3)).heap.size (w.alloc (.cells #[.int .i64 a1] 3)) W) (ho : Kd.R k45 45 W (w.alloc (.cells #[.int .i64 a1] 3)).heap.size (fun _ => True) v l0) =>
    deleteFunc (ofTx a1) 26 #[.pointer (some ⟨w.heap.size, 0, none⟩)] eg l0 v _ W hb (fun W' x hb' => freeC x a1 w.heap.size W' ((hb'.cell (p := ⟨w.heap.size, 0, none⟩) (by simp)).trans (by go_simp))) ho HL.out)
  go_enter Try.func16, Try.ntmps16
  go_wp2_with (first | (go_at_call 18; refine HC.out.mono ?_; rintro e w1 ⟨v1, rfl, hR1, hb1⟩; have HR1 := Aside0.mk hR1; have HB1 := Aside0.mk hb1; clear hR1 hb1) | (go_at_call 25; refine (HD.out _ _ HB1.out HR1.out).mono ?_; rintro e w2 ⟨v2, rfl, hR2, hb2⟩; have HR2 := Aside0.mk hR2; have HB2 := Aside0.mk hb2; clear hR2 hb2))
  go_ret
  exact ⟨v2, rfl, by rw [H.out]; exact Kd.R_lower HR2.out (by simp), below_then HA.out (by simp) HB2.out⟩
end Go.Proofs.Ytjabikmofancfaa.H
