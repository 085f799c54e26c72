/- The row of the law SiteNobody, round its walk: for every input it returns true. No condition. -/
import Derived.Test.YtolpcfjmhimpeaaRows
import Derived.Test.YtolpcfjmhimpeaaWSiteNobody
import Derived.Test.YtolpcfjmhimpeaaReads
import Derived.WalkKit
import Derived.ProofKit
import Derived.OpenShut
import Derived.ShutString
import Derived.ChangeOld
import Derived.Below
import Derived.SizedLaws
namespace Go.Proofs.Ytolpcfjmhimpeaa.siteNobody
open Go.ChangeShapes Go.WideShapes Go.ChangeAt Go.RowKit Go.Proofs.YtolpcfjmhimpeaaW.PrintWords
set_option linter.unusedVariables false
theorem own : ownKnob Try.prog.godebug = none := by kernel_rfl
theorem laidOut : laidOutB Try.prog = true := by kernel_rfl
theorem op3 : Ytolpcfjmhimpeaa.H.Opens Try.prog (Kd.int .i64) (fun x => (Lit.int .i64 x).wf = true) 3 := Ytolpcfjmhimpeaa.H.opens_int Try.underlying3 (by kernel_rfl)
theorem op5 : Ytolpcfjmhimpeaa.H.Opens Try.prog (Kd.int .u8) (fun x => (Lit.int .u8 x).wf = true) 5 := Ytolpcfjmhimpeaa.H.opens_int Try.underlying5 (by kernel_rfl)
theorem op2 : Ytolpcfjmhimpeaa.H.Opens Try.prog (Kd.int .i64) (fun x => (Lit.int .i64 x).wf = true) 2 := Ytolpcfjmhimpeaa.H.opens_int Try.underlying2 (by kernel_rfl)
theorem op36 : Ytolpcfjmhimpeaa.H.Opens Try.prog P.k36 (fun x => ((Lit.int .i64 (x.f0, x.f1, x.f2, x.f3).1).wf = true ∧ (Lit.int .i64 (x.f0, x.f1, x.f2, x.f3).2.1).wf = true ∧ (Lit.int .u8 (x.f0, x.f1, x.f2, x.f3).2.2.1).wf = true ∧ (Lit.int .i64 (x.f0, x.f1, x.f2, x.f3).2.2.2).wf = true)) 36 := Ytolpcfjmhimpeaa.H.opens_struct4 (fun x : P.S36 => (x.f0, x.f1, x.f2, x.f3)) (fun a b c d => ⟨a, b, c, d⟩) (fun _ _ _ _ => rfl) Try.underlying36 (by kernel_rfl) rfl rfl rfl rfl rfl rfl rfl rfl op3 op3 op5 op2
theorem op22 : Ytolpcfjmhimpeaa.H.Opens Try.prog (Kd.slice 36 P.k36) (fun x => (∀ y ∈ x, ((Lit.int .i64 (y.f0, y.f1, y.f2, y.f3).1).wf = true ∧ (Lit.int .i64 (y.f0, y.f1, y.f2, y.f3).2.1).wf = true ∧ (Lit.int .u8 (y.f0, y.f1, y.f2, y.f3).2.2.1).wf = true ∧ (Lit.int .i64 (y.f0, y.f1, y.f2, y.f3).2.2.2).wf = true))) 22 := Ytolpcfjmhimpeaa.H.opens_slice (⟨(0 : Int), (0 : Int), (0 : Int), (0 : Int)⟩ : P.S36) Try.underlying22 (by kernel_rfl) op36
set_option maxRecDepth 100000 in
theorem lifted (os : Os) (started : os.Started) (H : Type) (enc : TypeId × Value → H) :
    ReturnsInHanded {} Try.checked os 5 .any (Rows.siteNobodySpec.pre6 enc Try.prog Try.f5 Rows.siteNobodyRow.domain false) (Rows.siteNobodySpec.post enc Try.prog Try.f5 false true false false) := by
  refine returnsInHanded_of_change_sized (C := Try.checked) own started (by kernel_rfl) Try.func5
    (ChangeSpec.witness6 (enc := enc) (C := Try.checked) false ⟨#[], #[.slice none 0 0, .agg #[.int .i64 0, .int .i64 0, .int .u8 0, .int .i64 0]], []⟩ 8 (by kernel_rfl) (by kernel_rfl) (by kernel_rfl) (by kernel_rfl)) ?_
  intro W base args ds gs before hval0 hW hcnd hsz0 _
  have hval : ∀ (j : Nat) t v, Try.f5.params[j]? = some t → args[j]? = some v → Value.okWide Try.prog W .any base t v := hval0
  have hW' := hW
  obtain ⟨p, q, hA0, hV, rfl, hfz, hnd⟩ := hW
  have hA : DataW.TrodAll enc Try.prog W 0 (fun _ => true) true Try.f5.params.toList args.toList ds p := hA0
  rw [Try.params5] at hA hval
  obtain ⟨v0, vs0, d0, ds0, p0, q0, hargs, rfl, rfl, h0, r0⟩ := trodAll_cons hA
  obtain ⟨v1, vs1, d1, ds1, p1, q1, rfl, rfl, rfl, h1, r1⟩ := trodAll_cons r0
  obtain ⟨rfl, rfl, rfl⟩ := trodAll_nil r1
  obtain rfl : args = #[v0, v1] := by cases args; simp_all
  obtain ⟨rfl, rfl⟩ := trodVars_none hV
  have k0 := h0
  have lt0 : ∀ x ∈ p0, x.block < W.heap.size := by obtain ⟨m, hm⟩ := k0; exact DataW.trod_lt m _ _ _ hm
  obtain ⟨a0, len0, cap0, rfl⟩ := okWide_slice Try.underlying22 (hval 0 22 v0 rfl rfl)
  obtain ⟨fuel0, hf0⟩ := h0
  obtain ⟨l0, ⟨A0, c0, hcs0, hle0, hC0⟩, hQ0⟩ := op22.2 _ enc W _ _ _ _ _ hf0
  simp [Value.cells] at hcs0
  obtain ⟨rfl, rfl, rfl⟩ := hcs0
  have k1 := h1
  have lt1 : ∀ x ∈ p1, x.block < W.heap.size := by obtain ⟨m, hm⟩ := k1; exact DataW.trod_lt m _ _ _ hm
  obtain ⟨cs1, rfl⟩ := Ytolpcfjmhimpeaa.H.okWide_agg Try.underlying36 (hval 1 36 v1 rfl rfl)
  obtain ⟨fuel1, hf1⟩ := h1
  obtain ⟨⟨x1_0, x1_1, x1_2, x1_3⟩, hK1, hQ1⟩ := op36.2 _ enc W _ _ _ _ _ hf1
  obtain ⟨_, _, hcs1, rfl, ⟨_, _, rfl, rfl, ⟨_, _, rfl, rfl, rfl⟩⟩⟩ := hK1
  obtain rfl : cs1 = #[.int .i64 x1_0, .int .i64 x1_1, .int .u8 x1_2, .int .i64 x1_3] := Array.ext' hcs1
  clear hA0 hval0 hsz0
  refine (Ytolpcfjmhimpeaa.H.SiteNobody_walk _ _ l0 hC0 hle0 hQ0 x1_0 x1_1 x1_2 x1_3 hQ1).mono fun e W' ⟨he, bel⟩ => ?_
  subst he
  exact ⟨_, rfl, _, _, _, [], _, [], hW', trodAll_mk1 (shut_bool Try.underlying4 _), (trodAll_cons_mk (Below.trod laidOut (by kernel_rfl) (of_decide_eq_true (by kernel_rfl)) k0 bel lt0) (trodAll_cons_mk (Below.trod laidOut (by kernel_rfl) (of_decide_eq_true (by kernel_rfl)) k1 bel lt1) trodAll_mk0)), rfl, bel.frame _, fun h => by cases h⟩
theorem over : Rows.siteNobodyRow.holds Try.pinned (OpenSpec.ofChange Rows.siteNobodySpec) :=
  OpenClaim.holds_of_wide 5 Try.f5 rfl rfl rfl rfl rfl rfl rfl ⟨rfl, rfl, rfl, rfl, rfl⟩ rfl rfl rfl rfl rfl (by kernel_rfl) Try.func5 (by kernel_rfl)
    (of_decide_eq_true (by kernel_rfl)) (by unfold Func.isWrapper; first | (rw [if_pos (by decide +kernel)]; kernel_rfl) | (rw [if_neg (by decide +kernel)]; exact ⟨rfl, rfl⟩))
    (fun os started H enc _ => lifted os started H enc)
theorem proved : Rows.SiteNobodySaid := over
#print axioms proved
end Go.Proofs.Ytolpcfjmhimpeaa.siteNobody
namespace Go.Proofs.Ytolpcfjmhimpeaa
/-- The row, under a short name, for the claim. -/
theorem siteNobody_holds : Rows.SiteNobodySaid := siteNobody.proved
end Go.Proofs.Ytolpcfjmhimpeaa
