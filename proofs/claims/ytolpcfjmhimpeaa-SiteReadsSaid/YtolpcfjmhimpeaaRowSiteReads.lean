/- The row of the law SiteReads, round its walk: for every input it returns true. No condition. -/
import Derived.Test.YtolpcfjmhimpeaaRows
import Derived.Test.YtolpcfjmhimpeaaWSiteReads
import Derived.Test.YtolpcfjmhimpeaaReads
import Derived.WalkKit
import Derived.ProofKit
import Derived.OpenShut
import Derived.ShutString
import Derived.ChangeOld
import Derived.Below
import Derived.SizedLaws
namespace Go.Proofs.Ytolpcfjmhimpeaa.siteReads
open Go.ChangeShapes Go.WideShapes Go.ChangeAt Go.RowKit Go.Proofs.YtolpcfjmhimpeaaW.PrintWords
set_option linter.unusedVariables false
theorem own : ownKnob Try.prog.godebug = none := by kernel_rfl
theorem laidOut : laidOutB Try.prog = true := by kernel_rfl
theorem op3 : Ytolpcfjmhimpeaa.H.Opens Try.prog (Kd.int .i64) (fun x => (Lit.int .i64 x).wf = true) 3 := Ytolpcfjmhimpeaa.H.opens_int Try.underlying3 (by kernel_rfl)
theorem op5 : Ytolpcfjmhimpeaa.H.Opens Try.prog (Kd.int .u8) (fun x => (Lit.int .u8 x).wf = true) 5 := Ytolpcfjmhimpeaa.H.opens_int Try.underlying5 (by kernel_rfl)
theorem op2 : Ytolpcfjmhimpeaa.H.Opens Try.prog (Kd.int .i64) (fun x => (Lit.int .i64 x).wf = true) 2 := Ytolpcfjmhimpeaa.H.opens_int Try.underlying2 (by kernel_rfl)
theorem op36 : Ytolpcfjmhimpeaa.H.Opens Try.prog P.k36 (fun x => ((Lit.int .i64 (x.f0, x.f1, x.f2, x.f3).1).wf = true ∧ (Lit.int .i64 (x.f0, x.f1, x.f2, x.f3).2.1).wf = true ∧ (Lit.int .u8 (x.f0, x.f1, x.f2, x.f3).2.2.1).wf = true ∧ (Lit.int .i64 (x.f0, x.f1, x.f2, x.f3).2.2.2).wf = true)) 36 := Ytolpcfjmhimpeaa.H.opens_struct4 (fun x : P.S36 => (x.f0, x.f1, x.f2, x.f3)) (fun a b c d => ⟨a, b, c, d⟩) (fun _ _ _ _ => rfl) Try.underlying36 (by kernel_rfl) rfl rfl rfl rfl rfl rfl rfl rfl op3 op3 op5 op2
theorem op22 : Ytolpcfjmhimpeaa.H.Opens Try.prog (Kd.slice 36 P.k36) (fun x => (∀ y ∈ x, ((Lit.int .i64 (y.f0, y.f1, y.f2, y.f3).1).wf = true ∧ (Lit.int .i64 (y.f0, y.f1, y.f2, y.f3).2.1).wf = true ∧ (Lit.int .u8 (y.f0, y.f1, y.f2, y.f3).2.2.1).wf = true ∧ (Lit.int .i64 (y.f0, y.f1, y.f2, y.f3).2.2.2).wf = true))) 22 := Ytolpcfjmhimpeaa.H.opens_slice (⟨(0 : Int), (0 : Int), (0 : Int), (0 : Int)⟩ : P.S36) Try.underlying22 (by kernel_rfl) op36
set_option maxRecDepth 100000 in
theorem lifted (os : Os) (started : os.Started) (H : Type) (enc : TypeId × Value → H) :
    ReturnsInHanded {} Try.checked os 4 .any (Rows.siteReadsSpec.pre6 enc Try.prog Try.f4 Rows.siteReadsRow.domain false) (Rows.siteReadsSpec.post enc Try.prog Try.f4 false true false false) := by
  refine returnsInHanded_of_change_sized (C := Try.checked) own started (by kernel_rfl) Try.func4
    (ChangeSpec.witness6 (enc := enc) (C := Try.checked) false ⟨#[], #[.slice none 0 0, .slice none 0 0, .agg #[.int .u8 0, .int .u8 0]], []⟩ 8 (by kernel_rfl) (by kernel_rfl) (by kernel_rfl) (by kernel_rfl)) ?_
  intro W base args ds gs before hval0 hW hcnd hsz0 _
  have hval : ∀ (j : Nat) t v, Try.f4.params[j]? = some t → args[j]? = some v → Value.okWide Try.prog W .any base t v := hval0
  have hW' := hW
  obtain ⟨p, q, hA0, hV, rfl, hfz, hnd⟩ := hW
  have hA : DataW.TrodAll enc Try.prog W 0 (fun _ => true) true Try.f4.params.toList args.toList ds p := hA0
  rw [Try.params4] at hA hval
  obtain ⟨v0, vs0, d0, ds0, p0, q0, hargs, rfl, rfl, h0, r0⟩ := trodAll_cons hA
  obtain ⟨v1, vs1, d1, ds1, p1, q1, rfl, rfl, rfl, h1, r1⟩ := trodAll_cons r0
  obtain ⟨v2, vs2, d2, ds2, p2, q2, rfl, rfl, rfl, h2, r2⟩ := trodAll_cons r1
  obtain ⟨rfl, rfl, rfl⟩ := trodAll_nil r2
  obtain rfl : args = #[v0, v1, v2] := by cases args; simp_all
  obtain ⟨rfl, rfl⟩ := trodVars_none hV
  have k0 := h0
  have lt0 : ∀ x ∈ p0, x.block < W.heap.size := by obtain ⟨m, hm⟩ := k0; exact DataW.trod_lt m _ _ _ hm
  obtain ⟨a0, len0, cap0, rfl⟩ := okWide_slice Try.underlying22 (hval 0 22 v0 rfl rfl)
  obtain ⟨fuel0, hf0⟩ := h0
  obtain ⟨l0, ⟨A0, c0, hcs0, hle0, hC0⟩, hQ0⟩ := op22.2 _ enc W _ _ _ _ _ hf0
  simp [Value.cells] at hcs0
  obtain ⟨rfl, rfl, rfl⟩ := hcs0
  have k1 := h1
  have lt1 : ∀ x ∈ p1, x.block < W.heap.size := by obtain ⟨m, hm⟩ := k1; exact DataW.trod_lt m _ _ _ hm
  obtain ⟨a1, len1, cap1, rfl⟩ := okWide_slice Try.underlying22 (hval 1 22 v1 rfl rfl)
  obtain ⟨fuel1, hf1⟩ := h1
  obtain ⟨l1, ⟨A1, c1, hcs1, hle1, hC1⟩, hQ1⟩ := op22.2 _ enc W _ _ _ _ _ hf1
  simp [Value.cells] at hcs1
  obtain ⟨rfl, rfl, rfl⟩ := hcs1
  have k2 := h2
  have lt2 : ∀ x ∈ p2, x.block < W.heap.size := by obtain ⟨m, hm⟩ := k2; exact DataW.trod_lt m _ _ _ hm
  obtain ⟨cs2, rfl⟩ := Ytolpcfjmhimpeaa.H.okWide_arr Try.underlying46 (hval 2 46 v2 rfl rfl)
  obtain ⟨fuel2, hf2⟩ := h2
  obtain ⟨l2, hcs2, hQ2⟩ := Ytolpcfjmhimpeaa.H.opens_arr2 (H := H) (enc := enc) (W := W) Try.underlying46 (by kernel_rfl) Try.underlying5 (by kernel_rfl) hf2
  obtain ⟨x2_0, x2_1⟩ := l2
  obtain rfl : cs2 = #[.int .u8 x2_0, .int .u8 x2_1] := Array.ext' hcs2
  clear hA0 hval0 hsz0
  refine (Ytolpcfjmhimpeaa.H.SiteReads_walk _ _ l0 hC0 hle0 hQ0 _ _ l1 hC1 hle1 hQ1 x2_0 x2_1 hQ2).mono fun e W' ⟨he, bel⟩ => ?_
  subst he
  exact ⟨_, rfl, _, _, _, [], _, [], hW', trodAll_mk1 (shut_bool Try.underlying4 _), (trodAll_cons_mk (Below.trod laidOut (by kernel_rfl) (of_decide_eq_true (by kernel_rfl)) k0 bel lt0) (trodAll_cons_mk (Below.trod laidOut (by kernel_rfl) (of_decide_eq_true (by kernel_rfl)) k1 bel lt1) (trodAll_cons_mk (Below.trod laidOut (by kernel_rfl) (of_decide_eq_true (by kernel_rfl)) k2 bel lt2) trodAll_mk0))), rfl, bel.frame _, fun h => by cases h⟩
theorem over : Rows.siteReadsRow.holds Try.pinned (OpenSpec.ofChange Rows.siteReadsSpec) :=
  OpenClaim.holds_of_wide 4 Try.f4 rfl rfl rfl rfl rfl rfl rfl ⟨rfl, rfl, rfl, rfl, rfl⟩ rfl rfl rfl rfl rfl (by kernel_rfl) Try.func4 (by kernel_rfl)
    (of_decide_eq_true (by kernel_rfl)) (by unfold Func.isWrapper; first | (rw [if_pos (by decide +kernel)]; kernel_rfl) | (rw [if_neg (by decide +kernel)]; exact ⟨rfl, rfl⟩))
    (fun os started H enc _ => lifted os started H enc)
theorem proved : Rows.SiteReadsSaid := over
#print axioms proved
end Go.Proofs.Ytolpcfjmhimpeaa.siteReads
namespace Go.Proofs.Ytolpcfjmhimpeaa
/-- The row, under a short name, for the claim. -/
theorem siteReads_holds : Rows.SiteReadsSaid := siteReads.proved
end Go.Proofs.Ytolpcfjmhimpeaa
