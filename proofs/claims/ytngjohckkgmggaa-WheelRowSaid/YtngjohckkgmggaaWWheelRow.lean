/- What any calls in a row come to is the document's; a wheel may always be: the walk of the law WheelRow, and the plain law beneath it. No condition. -/

import Derived.Test.YtngjohckkgmggaaWhRef
import Derived.Test.YtngjohckkgmggaaP10
namespace Go.Proofs.Ytngjohckkgmggaa.H
open Go.RowKit Go.Proofs.YtngjohckkgmggaaW.PrintWords Go.Proofs.YtngjohckkgmggaaW.PrintLast Go.Proofs.Ytngjohckkgmggaa.P
set_option linter.unusedVariables false
set_option linter.unusedSimpArgs false

theorem rdA (l : List S54) (i : Nat) (h : i < l.length) : rd_T54 l (i : Int) = l[i] := by unfold rd_T54; rw [Int.toNat_natCast, List.getD_eq_getElem?_getD, List.getElem?_eq_getElem h]; rfl
theorem rung_len {now : Int} {l : List S64} (h : WhP now l) (nw : Int) : (rungP nw l).length ≤ 1000 ∧ (leftP nw l).length ≤ 1000 := by
  rw [(h.rings _).1, (h.rings _).2, List.length_map]
  exact ⟨Nat.le_trans (List.length_filter_le _ _) h.len, Nat.le_trans (List.length_filter_le _ _) h.len⟩
/-- The round's end: the wheel is right, and the document's. -/
theorem row_j3 {acts : List S54} {i : Nat} {R : Bool} (hi : i < 200) {now : Int} {l : List S64} (hw : wfT l = true) (h : WhP now l) {K : Nat} (hR : ∀ k, K ≤ k → waystationlaw06_WheelRow.l0 k acts ((i + 1 : Nat) : Int) now l now (l.map toO) = some R) :
    ∀ k, K + 1100 ≤ k → waystationlaw06_WheelRow.j3 k acts (i : Int) true now l now (l.map toO) = some R := by
  intro k hk
  obtain ⟨k, rfl⟩ : ∃ m, k = m + 1 := ⟨k - 1, by omega⟩
  have hlen := h.len
  simp only [waystationlaw06_WheelRow.j3]
  rw [if_pos trivial, ours_is now l (by omega) k (by omega), Option.bind_some]
  dsimp only
  rw [sameO_is now _ (by simp; omega) k (by simp; omega), Option.bind_some, if_pos rfl, show wheel_Right.f now l = rightF now l from rfl]
  unfold rightF
  rw [if_pos hw, Option.bind_some, if_pos (whp_right h), w64 i (by omega)]
  exact hR k (by omega)

theorem row_l0 (acts : List S54) (hQ : ∀ y ∈ acts, (Lit.int .i64 y.f1).wf = true ∧ (Lit.int .i64 y.f2).wf = true) (d : Nat) : ∀ (i : Nat), i + d = 100 → ∀ (now : Int) (l : List S64), wfT l = true → WhP now l →
    ∃ K, ∀ k, K ≤ k → waystationlaw06_WheelRow.l0 k acts (i : Int) now l now (l.map toO) = some true := by
  induction d with
  | zero =>
    intro i hi now l hw h
    refine ⟨2, fun k hk => ?_⟩
    obtain ⟨k, rfl⟩ : ∃ m, k = m + 2 := ⟨k - 2, by omega⟩
    simp only [waystationlaw06_WheelRow.l0, waystationlaw06_WheelRow.j1]
    rw [show decide ((i : Int) < 100) = false from decide_eq_false (by omega)]
    simp
  | succ d ih =>
    intro i hi now l hw h
    by_cases hil : i < acts.length
    · have hlen := h.len
      obtain ⟨y, hy⟩ : ∃ y, acts[i] = y := ⟨_, rfl⟩
      have hyb := hQ y (by rw [← hy]; exact List.getElem_mem hil)
      have hb2 : y.f2 ≤ 9223372036854775807 := by
        have h2 : IntKind.i64.min ≤ y.f2 ∧ y.f2 ≤ IntKind.i64.max := by simpa [Lit.wf] using hyb.2
        exact h2.2
      -- the head of a round
      have head : ∀ K, (∀ k, K ≤ k → waystationlaw06_WheelRow.j1 k acts (i : Int) true now l now (l.map toO) = some true) → ∃ K, ∀ k, K ≤ k → waystationlaw06_WheelRow.l0 k acts (i : Int) now l now (l.map toO) = some true := by
        intro K hK
        refine ⟨K + 1, fun k hk => ?_⟩
        obtain ⟨k, rfl⟩ : ∃ m, k = m + 1 := ⟨k - 1, by omega⟩
        simp only [waystationlaw06_WheelRow.l0]
        rw [if_pos (by omega), show decide ((i : Int) < 100) = true from decide_eq_true (by omega)]
        exact hK k (by omega)
      -- the three calls
      have stop : ∃ K, ∀ k, K ≤ k → ((wheel_Stop.f now l y.f1).bind fun b => (waystationref06_Stop.f k now (l.map toO) y.f1).bind fun c => waystationlaw06_WheelRow.j3 k acts (i : Int) (b.2.2 == c.2.2) b.1 b.2.1 c.1 c.2.1) = some true := by
        obtain ⟨K1, h1⟩ := rstop_is h y.f1
        by_cases hm : l.any (isId y.f1) = true
        · obtain ⟨K2, h2⟩ := ih (i + 1) (by omega) now (stopL l y.f1) (wfT_sub hw (fun t ht => ((stop_mem h).1 ht).1)) (h.stop y.f1)
          refine ⟨K1 + K2 + 1100, fun k hk => ?_⟩
          rw [show wheel_Stop.f now l y.f1 = stopF now l y.f1 from rfl, stop_good hw h, if_pos hm, Option.bind_some, h1 k (by omega), if_pos hm, Option.bind_some]
          exact row_j3 (by omega) (wfT_sub hw (fun t ht => ((stop_mem h).1 ht).1)) (h.stop y.f1) h2 k (by omega)
        · obtain ⟨K2, h2⟩ := ih (i + 1) (by omega) now l hw h
          refine ⟨K1 + K2 + 1100, fun k hk => ?_⟩
          rw [show wheel_Stop.f now l y.f1 = stopF now l y.f1 from rfl, stop_good hw h, if_neg hm, Option.bind_some, h1 k (by omega), if_neg hm, Option.bind_some]
          exact row_j3 (by omega) hw h h2 k (by omega)
      have tick : ∃ K, ∀ k, K ≤ k → ((wheel_Tick.f now l y.f2).bind fun b => (waystationref06_Tick.f k now (l.map toO) y.f2).bind fun c => if b.2.2.2 = c.2.2.2 then ((waystationlaw06_same.f k b.2.2.1 c.2.2.1).bind fun t => waystationlaw06_WheelRow.j3 k acts (i : Int) t b.1 b.2.1 c.1 c.2.1) else (waystationlaw06_WheelRow.j3 k acts (i : Int) false b.1 b.2.1 c.1 c.2.1)) = some true := by
        obtain ⟨K1, h1⟩ := rtick_is (by_ := y.f2) h hb2
        by_cases hm : y.f2 < 0
        · obtain ⟨K2, h2⟩ := ih (i + 1) (by omega) now l hw h
          refine ⟨K1 + K2 + 1100, fun k hk => ?_⟩
          rw [show wheel_Tick.f now l y.f2 = tickF now l y.f2 from rfl, tick_any hw h, if_pos hm, Option.bind_some, h1 k (by omega), if_pos hm, Option.bind_some]
          dsimp only
          rw [if_pos rfl, same_is [] (by simp) k (by simp; omega), Option.bind_some]
          exact row_j3 (by omega) hw h h2 k (by omega)
        · by_cases hm2 : 1099511627776 - now < y.f2
          · obtain ⟨K2, h2⟩ := ih (i + 1) (by omega) now l hw h
            refine ⟨K1 + K2 + 1100, fun k hk => ?_⟩
            rw [show wheel_Tick.f now l y.f2 = tickF now l y.f2 from rfl, tick_any hw h, if_neg hm, if_pos hm2, Option.bind_some, h1 k (by omega), if_neg hm, if_pos hm2, Option.bind_some]
            dsimp only
            rw [if_pos rfl, same_is [] (by simp) k (by simp; omega), Option.bind_some]
            exact row_j3 (by omega) hw h h2 k (by omega)
          · have hw2 : wfT (leftP (now + y.f2) l) = true := wfT_sub hw (fun t ht => by rw [(h.rings _).2] at ht; exact (List.mem_filter.1 ht).1)
            have h2' := h.left (nw := now + y.f2) (by omega) (by omega)
            obtain ⟨K2, h2⟩ := ih (i + 1) (by omega) (now + y.f2) (leftP (now + y.f2) l) hw2 h2'
            refine ⟨K1 + K2 + 2200, fun k hk => ?_⟩
            have hrl := rung_len h (now + y.f2)
            rw [show wheel_Tick.f now l y.f2 = tickF now l y.f2 from rfl, tick_any hw h, if_neg hm, if_neg hm2, Option.bind_some, h1 k (by omega), if_neg hm, if_neg hm2, Option.bind_some]
            dsimp only
            rw [if_pos rfl, same_is _ (by omega) k (by omega), Option.bind_some]
            exact row_j3 (by omega) hw2 h2' h2 k (by omega)
      have set : ∃ K, ∀ k, K ≤ k → ((wheel_Set.f now l y.f1 y.f2).bind fun b => (waystationref06_Set.f k now (l.map toO) y.f1 y.f2).bind fun c => waystationlaw06_WheelRow.j3 k acts (i : Int) (b.2.2 == c.2.2) b.1 b.2.1 c.1 c.2.1) = some true := by
        obtain ⟨K1, h1⟩ := rset_is h y.f1 y.f2
        obtain ⟨K2, h2⟩ := ih (i + 1) (by omega) now l hw h
        by_cases hm : y.f2 ≤ now
        · refine ⟨K1 + K2 + 1100, fun k hk => ?_⟩
          rw [show wheel_Set.f now l y.f1 y.f2 = setF now l y.f1 y.f2 from rfl, set_good hw h, if_pos hm, Option.bind_some, h1 k (by omega), if_pos hm, Option.bind_some]
          exact row_j3 (by omega) hw h h2 k (by omega)
        · by_cases hm2 : 1099511627776 < y.f2
          · refine ⟨K1 + K2 + 1100, fun k hk => ?_⟩
            rw [show wheel_Set.f now l y.f1 y.f2 = setF now l y.f1 y.f2 from rfl, set_good hw h, if_neg hm, if_pos hm2, Option.bind_some, h1 k (by omega), if_neg hm, if_pos hm2, Option.bind_some]
            exact row_j3 (by omega) hw h h2 k (by omega)
          · by_cases hm3 : l.any (isId y.f1) = false ∧ 1000 ≤ l.length
            · refine ⟨K1 + K2 + 1100, fun k hk => ?_⟩
              rw [show wheel_Set.f now l y.f1 y.f2 = setF now l y.f1 y.f2 from rfl, set_good hw h, if_neg hm, if_neg hm2, if_pos hm3, Option.bind_some, h1 k (by omega), if_neg hm, if_neg hm2, if_pos hm3, Option.bind_some]
              exact row_j3 (by omega) hw h h2 k (by omega)
            · have hw2 : wfT (insS ⟨y.f1, y.f2⟩ (stopL l y.f1)) = true := wfT_ins (wfT_sub hw (fun t ht => ((stop_mem h).1 ht).1)) hyb.1
              have hp2 : WhP now (insS ⟨y.f1, y.f2⟩ (stopL l y.f1)) := h.set (by omega) (by omega) (by
                cases h5 : l.any (isId y.f1) with
                | true => exact .inl rfl
                | false => exact .inr (by by_cases h6 : 1000 ≤ l.length; exact absurd ⟨h5, h6⟩ hm3; omega))
              obtain ⟨K3, h3⟩ := ih (i + 1) (by omega) now _ hw2 hp2
              refine ⟨K1 + K3 + 1100, fun k hk => ?_⟩
              rw [show wheel_Set.f now l y.f1 y.f2 = setF now l y.f1 y.f2 from rfl, set_good hw h, if_neg hm, if_neg hm2, if_neg hm3, Option.bind_some, h1 k (by omega), if_neg hm, if_neg hm2, if_neg hm3, Option.bind_some]
              exact row_j3 (by omega) hw2 hp2 h3 k (by omega)
      obtain ⟨K1, k1⟩ := stop
      obtain ⟨K2, k2⟩ := tick
      obtain ⟨K3, k3⟩ := set
      have j2 : ∀ (b : Bool) (z : Int), ∀ k, K2 + K3 + 1 ≤ k → waystationlaw06_WheelRow.j2 k acts (i : Int) b now l now (l.map toO) z y.f1 y.f2 = some true := by
        intro b z k hk
        obtain ⟨k, rfl⟩ : ∃ m, k = m + 1 := ⟨k - 1, by omega⟩
        simp only [waystationlaw06_WheelRow.j2]
        cases b with
        | true => rw [if_pos rfl]; exact k2 k (by omega)
        | false => rw [if_neg (by simp)]; exact k3 k (by omega)
      refine head (K1 + K2 + K3 + 2) (fun k hk => ?_)
      obtain ⟨k, rfl⟩ : ∃ m, k = m + 1 := ⟨k - 1, by omega⟩
      simp only [waystationlaw06_WheelRow.j1]
      rw [if_pos trivial, if_pos (by omega), if_pos (by omega), rdA acts i hil, hy]
      by_cases c1 : Int.tmod y.f0 5 = 2
      · rw [if_pos c1]; exact k1 k (by omega)
      · rw [if_neg c1]
        by_cases c2 : Int.tmod y.f0 5 = 3
        · rw [if_pos c2]; exact j2 _ _ k (by omega)
        · rw [if_neg c2]; exact j2 _ _ k (by omega)
    · refine ⟨2, fun k hk => ?_⟩
      obtain ⟨k, rfl⟩ : ∃ m, k = m + 2 := ⟨k - 2, by omega⟩
      simp only [waystationlaw06_WheelRow.l0, waystationlaw06_WheelRow.j1]
      rw [if_neg (by omega)]
      simp
theorem WheelRow_pure (acts : List S54) (hQ : ∀ y ∈ acts, (Lit.int .i64 y.f1).wf = true ∧ (Lit.int .i64 y.f2).wf = true) : ∃ k, waystationlaw06_WheelRow.f k acts = some true := by
  obtain ⟨K, hK⟩ := row_l0 acts hQ 100 0 (by omega) 0 [] rfl ⟨by omega, by omega, by simp, by simp, List.Pairwise.nil⟩
  refine ⟨K, ?_⟩
  unfold waystationlaw06_WheelRow.f
  rw [show waystationlaw06_alive.f = some true from rfl, Option.bind_some, if_pos rfl]
  exact hK K (Nat.le_refl _)
theorem WheelRow_walk (A0 : Option Addr) (c0 : Nat) (l0 : List S54) {w : World} (hr0 : Kd.C k54 w A0 l0.length l0) (hc0 : l0.length ≤ c0) (hQ : ∀ y ∈ l0, (Lit.int .u8 y.f0).wf = true ∧ (Lit.int .i64 y.f1).wf = true ∧ (Lit.int .i64 y.f2).wf = true) :
    Calls Try.prog 4 #[.slice A0 l0.length c0] w fun e w' => e = .returned (.bool true) ∧ Below w.heap.size w w' := by
  obtain ⟨k, hk⟩ := WheelRow_pure l0 (fun y hy => (hQ y hy).2)
  exact waystationlaw06_WheelRow.calls k A0 c0 l0 true w hr0 hc0 hk
end Go.Proofs.Ytngjohckkgmggaa.H
