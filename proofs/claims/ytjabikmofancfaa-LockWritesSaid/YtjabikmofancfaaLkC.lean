
import Derived.Test.YtjabikmofancfaaLkB
import Derived.WalkSpells
import Derived.Lib.SliceRun
namespace Go.Proofs.Ytjabikmofancfaa.H
open Go.RowKit Go.Proofs.YtjabikmofancfaaW.PrintWords Go.Proofs.YtjabikmofancfaaW.PrintLast Go.Proofs.Ytjabikmofancfaa.P
set_option linter.unusedVariables false
set_option linter.unusedSimpArgs false

theorem infoH : (Try.prog.info? 45).map (fun i => (i.zero, i.size, i.bytes)) = some (some (.agg #[(.int .u8 0), (.int .i64 0), (.bool false)]), 3, 24) := by kernel_rfl

theorem flatH {w : World} {A : Option Addr} {n : Nat} {l : List S45} (h : Kd.C k45 w A n l) : ReadsRow (fun (x : S45) cs => cs = [.int .u8 x.f0, .int .i64 x.f1, .bool x.f2]) 3 w A n l :=
  ReadsRow.imp_ h (Below.refl _ _) (fun _ _ hp => k45_open hp)

set_option maxHeartbeats 1000000 in
theorem clone_calls (A : Option Addr) (c : Nat) (l : List S45) (w : World) (hr : Kd.C k45 w A l.length l) (hl : l.length ≤ 5864062014805) :
    Calls Try.prog 18 #[.slice A l.length c] w fun e w' => ∃ v, e = .returned v ∧ Kd.R k45 45 w' w.heap.size (fun _ => True) v l ∧ Below w.heap.size w w' := by
  have HR := Aside0.mk (flatH hr)
  have HL := Aside0.mk hl
  have hne := fun (w : World) (a : Option Addr) (n c : Nat) => Lib.run_eql_slice_nil (P := Try.prog) w 28 45 a n c 0 0 Try.underlying28
  cases A with
  | none =>
    have h0 : l = [] := by
      cases l with
      | nil => rfl
      | cons x l => obtain ⟨ad, h, _⟩ := hr.2.2 (by simp); cases h
    subst h0
    clear hr hl HR HL
    go_enter Try.func18, Try.ntmps18
    go_wp2
    go_ret
    exact ⟨_, rfl, Kd.R_nil _ _ _ _ _, Below.refl _ _⟩
  | some ad =>
    clear hr hl
    go_enter Try.func18, Try.ntmps18
    have HO : Aside0 (Kd.R k45 45 (w.alloc (.cells #[] 45)) w.heap.size (fun _ => True) (.slice (some ⟨w.heap.size, 0, none⟩) 0 0) []) :=
      ⟨fun _ _ => trivial, [], ⟨by simp, .inr ⟨w.heap.size, 0, #[], rfl, Nat.le_refl _, heap_alloc_new _ _, Nat.le_refl _, by simp, by simp, by simp⟩⟩, Reps.none _ _⟩
    have HRB := Aside0.mk (ReadsRow.imp_ HR.out ((Below.refl w.heap.size w).alloc (Nat.le_refl _) (.cells #[] 45)) (fun _ _ hp => hp))
    go_wp2_with ((with_reducible refine gate_builtin (b := .append) (xs := #[.tmp 5, .tmp 6]) rfl ?_); at_builtin; refine Kd.R_append_rows k45 (w0 := w) w.heap.size rfl (.tmp 5) (.tmp 6) 28 45 (.agg #[(.int .u8 0), (.int .i64 0), (.bool false)]) 24 rfl Try.underlying28 infoH rfl (by decide) (by omega) (.slice (some ⟨w.heap.size, 0, none⟩) 0 0) [] l (some ad) l.length c (fun _ => True) (fun _ => False) rfl rfl HO.out HRB.out (fun x cs hx => by subst hx; exact k45_mkM _ _ _ x) (fun _ h => h.elim) (fun _ _ => trivial) (below_alloc (Below.refl _ _) _) (by simp) (by have := HL.out; simp; omega) ?_; rintro v1 w1 hR hB hg hat; have HR1 := Aside0.mk hR; have HB1 := Aside0.mk hB; clear hR hB hg hat)
    go_ret
    exact ⟨_, rfl, HR1.out, HB1.out⟩
end Go.Proofs.Ytjabikmofancfaa.H
