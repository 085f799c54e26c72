/- wheel.Right: what it answers, and the call. Written after the lock's Right. -/

import Derived.Test.YtngjohckkgmggaaTmB
import Derived.Maps.OwnSet
namespace Go.Proofs.Ytngjohckkgmggaa.H
open Go.RowKit Go.Proofs.YtngjohckkgmggaaW.PrintWords Go.Proofs.YtngjohckkgmggaaW.PrintLast Go.Proofs.Ytngjohckkgmggaa.P
set_option linter.unusedVariables false
set_option linter.unusedSimpArgs false

/-- A set of ids, as a map. -/
def idsD (l : List S64) : DataW Unit := l.foldl (fun D t => D.put (.int .i64 t.f0) (.agg [])) (.map [])
theorem idsD_snoc (l : List S64) (t : S64) : idsD (l ++ [t]) = (idsD l).put (.int .i64 t.f0) (.agg []) := by
  unfold idsD
  rw [List.foldl_append]
  rfl
theorem idsD_isMap (l : List S64) : Maps.IsMap (idsD l) := by
  suffices h : ∀ r : List S64, Maps.IsMap (idsD r.reverse) by simpa using h l.reverse
  intro r
  induction r with
  | nil => exact Maps.isMap_empty
  | cons t r ih => rw [List.reverse_cons, idsD_snoc]; exact ih.put _ _
theorem idsD_has (l : List S64) (x : Int) : Maps.has (idsD l) (.int .i64 x) = l.any (fun t => t.f0 == x) := by
  suffices h : ∀ r : List S64, Maps.has (idsD r.reverse) (.int .i64 x) = r.reverse.any (fun t => t.f0 == x) by simpa using h l.reverse
  intro r
  induction r with
  | nil => rfl
  | cons t r ih =>
    rw [List.reverse_cons, idsD_snoc, List.any_append, ← ih]
    by_cases h : t.f0 = x
    · subst h
      rw [Maps.has_put_same (idsD_isMap _) (show WideAt.IsKeyLit (Lit.int .i64 t.f0) from trivial)]
      simp
    · rw [Maps.has_put_other (show Lit.int .i64 x ≠ Lit.int .i64 t.f0 from fun e => h (by injection e with _ e; exact e.symm))]
      simp [h]

def wfT (l : List S64) : Bool := l.all (fun t => (Lit.int .i64 t.f0).wf)
def okNow (now : Int) (l : List S64) : Bool := !(decide (now < 0) || decide (1099511627776 < now) || decide (1000 < (l.length : Int)))
def okAt (now : Int) (l : List S64) (i : Nat) : Bool :=
  !((l.take i).any (fun t => t.f0 == (l.getD i z64).f0) || decide ((l.getD i z64).f1 ≤ now) || decide (1099511627776 < (l.getD i z64).f1) || decide (0 < i) && decide (0 ≤ ordI (l.getD (i - 1) z64) (l.getD i z64)))
def right (now : Int) (l : List S64) : Bool := okNow now l && (List.range l.length).all (okAt now l)
def rightF (now : Int) (l : List S64) : Option Bool := if wfT l = true then some (right now l) else none

theorem right_no {now : Int} {l : List S64} {i : Nat} (hi : i < l.length) (h : okAt now l i = false) : right now l = false := by
  unfold right
  rw [Bool.and_eq_false_iff]
  refine .inr ?_
  rw [List.all_eq_false]
  exact ⟨i, List.mem_range.2 hi, by rw [h]; simp⟩
theorem right_yes {now : Int} {l : List S64} (h0 : okNow now l = true) (h : ∀ i, i < l.length → okAt now l i = true) : right now l = true := by
  unfold right
  rw [h0, Bool.true_and, List.all_eq_true]
  exact fun i hi => h i (List.mem_range.1 hi)

theorem box_then (w : World) (o1 o2 : Obj) : Below (w.heap.size + 1) (w.alloc o1) ((w.alloc o1).alloc o2) := by
  have := below_alloc (Below.refl (w.alloc o1).heap.size (w.alloc o1)) o2
  rwa [show (w.alloc o1).heap.size = w.heap.size + 1 from by simp] at this
theorem box_map {H : Type} (w : World) (o1 : Obj) (P : Program) (k : TypeId) (R : Value → Option (DataW H × List MemPlace)) : ((w.alloc o1).alloc (.map #[] 0)).ownsMap P k R (w.heap.size + 1) 0 (.map []) := by
  have := World.ownsMap_made (w.alloc o1) P k R
  rwa [show (w.alloc o1).heap.size = w.heap.size + 1 from by simp] at this
theorem unit_zero : ∀ w, (zeroValue 75).run Try.prog w = .ok (.agg #[]) w := fun w => by kernel_rfl

set_option maxHeartbeats 4000000 in
set_option maxRecDepth 100000 in
theorem right_calls (a0_0 : Int) (A0_1 : Option Addr) (c0_1 : Nat) (l0_1 : List (S64)) (r : Bool) (w : World) (hr0_1 : Kd.C k64 w A0_1 l0_1.length l0_1) (hc0_1 : l0_1.length ≤ c0_1) (h : rightF a0_0 l0_1 = some r) :
    Calls Try.prog 20 #[.agg #[.int .i64 a0_0, .slice A0_1 l0_1.length c0_1]] w fun e w' => e = .returned (.bool r) ∧ Below w.heap.size w w' := by
  have hu := Try.underlying64
  have hbig := hr0_1.2.1
  have hmm := @run_makeMap Try.prog
  have HR := Aside0.mk hr0_1
  have HW : Aside0 (wfT l0_1 = true) := ⟨by unfold rightF at h; split at h <;> first | assumption | cases h⟩
  have H : Aside0 (right a0_0 l0_1 = r) := ⟨by unfold rightF at h; rw [if_pos HW.out] at h; injection h⟩
  clear hr0_1 hc0_1 h
  have HX : ∀ o, Aside0 (Below w.heap.size w (w.alloc o)) := fun o => ⟨below_alloc (Below.refl _ _) o⟩
  cases hN : okNow a0_0 l0_1 with
  | false =>
    have HN : Aside0 (r = false) := ⟨by rw [← H.out]; unfold right; rw [hN]; rfl⟩
    unfold okNow at hN
    cases n0 : decide (a0_0 < 0) with
    | true =>
      clear hN
      go_enter Try.func20, Try.ntmps20
      go_wp2
      go_ret
      exact ⟨by rw [HN.out]; rfl, (HX _).out⟩
    | false =>
      cases n1 : decide (1099511627776 < a0_0) with
      | true =>
        clear hN
        go_enter Try.func20, Try.ntmps20
        go_wp2
        go_ret
        exact ⟨by rw [HN.out]; rfl, (HX _).out⟩
      | false =>
        have n2 : decide (1000 < (l0_1.length : Int)) = true := by rw [n0, n1] at hN; simpa using hN
        clear hN
        go_enter Try.func20, Try.ntmps20
        go_wp2
        go_ret
        exact ⟨by rw [HN.out]; rfl, (HX _).out⟩
  | true =>
    have HN := Aside0.mk hN
    obtain ⟨n0, n1, n2⟩ : decide (a0_0 < 0) = false ∧ decide (1099511627776 < a0_0) = false ∧ decide (1000 < (l0_1.length : Int)) = false := by
      unfold okNow at hN
      simpa [and_assoc] using hN
    clear hN
    go_enter Try.func20, Try.ntmps20
    go_wp2
    obtain ⟨wb, hwb⟩ : ∃ wb, wb = w.alloc (.cells #[.int .i64 a0_0, .slice A0_1 l0_1.length c0_1] 28) := ⟨_, rfl⟩
    have HWB := Aside0.mk hwb
    clear hwb
    go_loopg [4, 5, 6, 7, 26] l0_1.length (fun gg _ _ _ _ s26 wr => ∃ kk : Int, s26 = .int .i64 kk ∧ Aside0 (0 ≤ kk ∧ kk ≤ l0_1.length ∧ l0_1.length - kk.toNat ≤ gg) ∧ Aside0 (Below (w.heap.size + 1) wb wr ∧ w.heap.size + 2 ≤ wr.heap.size) ∧ Aside0 (wr.ownsMap Try.prog 3 unitElem (w.heap.size + 1) kk.toNat (idsD (l0_1.take kk.toNat))) ∧ Aside0 (∀ j, j < kk.toNat → okAt a0_0 l0_1 j = true))
    case atStart => exact ⟨0, rfl, ⟨by omega, by omega, by omega⟩, ⟨by rw [HWB.out]; exact box_then _ _ _, by simp⟩, ⟨box_map _ _ _ _ _⟩, ⟨fun j hj => absurd hj (Nat.not_lt_zero _)⟩⟩
    case round =>
      obtain ⟨kk, rfl, HK, BW, HS, AF⟩ := hrel
      have p0 : 0 ≤ kk := HK.out.1
      by_cases hlt : kk < (l0_1.length : Int)
      · obtain ⟨ad, e0, h0, h1⟩ := at_T64 HR.out kk p0 hlt
        cases e0
        have k0 := World.block_lt_of_cell? w _ h0
        have k1 := World.block_lt_of_cell? w _ h1
        have CW := Aside0.mk (fun W (hb : Below (w.heap.size + 1) wb W) =>
          (show W.cell? (ad.add (kk.toNat * 2)) = some (.int .i64 (rd_T64 l0_1 kk).f0) ∧ W.cell? ⟨(ad.add (kk.toNat * 2)).block, (ad.add (kk.toNat * 2)).off + 1, none⟩ = some (.int .i64 (rd_T64 l0_1 kk).f1) ∧
            W.cell? ⟨w.heap.size, 0, none⟩ = some (.int .i64 a0_0) ∧ W.cell? ⟨w.heap.size, 1, none⟩ = some (.slice (some ad) l0_1.length c0_1) from by
            have hw := (HX (.cells #[.int .i64 a0_0, .slice (some ad) l0_1.length c0_1] 28)).out
            rw [HWB.out] at hb
            refine ⟨(hb.cell (Nat.lt_succ_of_lt k0)).trans ((hw.cell k0).trans h0), (hb.cell (Nat.lt_succ_of_lt k1)).trans ((hw.cell k1).trans h1), (hb.cell (p := ⟨w.heap.size, 0, none⟩) (Nat.lt_succ_self _)).trans ?_, (hb.cell (p := ⟨w.heap.size, 1, none⟩) (Nat.lt_succ_self _)).trans ?_⟩ <;> go_simp))
        obtain ⟨g0, g1, g2, g3⟩ := CW.out _ BW.out.1
        clear h0 h1 k0 k1
        have HO : Aside0 (okAt a0_0 l0_1 kk.toNat = !((l0_1.take kk.toNat).any (fun t => t.f0 == (rd_T64 l0_1 kk).f0) || decide ((rd_T64 l0_1 kk).f1 ≤ a0_0) || decide (1099511627776 < (rd_T64 l0_1 kk).f1) || decide (0 < kk.toNat) && decide (0 ≤ ordI (l0_1.getD (kk.toNat - 1) z64) (rd_T64 l0_1 kk)))) := ⟨rfl⟩
        have HWF : Aside0 ((Lit.int .i64 (rd_T64 l0_1 kk).f0).wf = true) := ⟨List.all_eq_true.1 HW.out _ (by unfold rd_T64; rw [List.getD_eq_getElem?_getD, List.getElem?_eq_getElem (show kk.toNat < l0_1.length by omega)]; exact List.getElem_mem _)⟩
        have HTK : Aside0 (l0_1.take (kk.toNat + 1) = l0_1.take kk.toNat ++ [rd_T64 l0_1 kk]) := ⟨by rw [List.take_add_one, List.getElem?_eq_getElem (show kk.toNat < l0_1.length by omega)]; unfold rd_T64; rw [List.getD_eq_getElem?_getD, List.getElem?_eq_getElem (show kk.toNat < l0_1.length by omega)]; rfl⟩
        generalize rd_T64 l0_1 kk = y at g0 g1 HO HWF HTK CW
        have HL := Aside0.mk hlt
        have cb : decide (kk < (l0_1.length : Int)) = true := decide_eq_true hlt
        have q0 : (0 ≤ kk) = True := eq_true p0
        have q1 : (kk < (l0_1.length : Int)) = True := eq_true hlt
        clear hlt p0
        obtain ⟨y0, y1⟩ := y
        have hkey : keyOf Try.prog 3 (.int .i64 y0) = some (.int .i64 y0) := Go.Maps.keyOf_int_mk Try.underlying3 HWF.out
        have HKEY := Aside0.mk hkey
        clear hkey
        have HH : Aside0 (Maps.has (idsD (l0_1.take kk.toNat)) (Lit.int .i64 y0) = (l0_1.take kk.toNat).any (fun t => t.f0 == y0)) := ⟨idsD_has _ _⟩
        obtain ⟨tw, htw⟩ : ∃ tw, (l0_1.take kk.toNat).any (fun t => t.f0 == y0) = tw := ⟨_, rfl⟩
        replace HO := Aside0.mk HO.out
        simp only [htw] at HO HH
        clear htw
        go_wp2_with (at_lookup; refine wpList_lookup_own_unit _ rfl _ _ 74 rfl 3 75 (Go.Maps.int_keyed Try.underlying3) Try.underlying74 (unit_zero _) (w.heap.size + 1) kk.toNat _ rfl (HS.out.alloc _) _ _ rfl HKEY.out ?_; rw [HH.out])
        have HS8 := Aside0.mk ((HS.out.alloc (.cells #[.int .i64 y0, .int .i64 y1] 64)).alloc (.cells #[] 75))
        have hz8 : ((wr.alloc (.cells #[.int .i64 y0, .int .i64 y1] 64)).alloc (.cells #[] 75)).heap.size = wr.heap.size + 2 := by simp
        have hb8 : Below wr.heap.size wr ((wr.alloc (.cells #[.int .i64 y0, .int .i64 y1] 64)).alloc (.cells #[] 75)) := below_alloc (below_alloc (Below.refl _ _) _) _
        have hc8 : ((wr.alloc (.cells #[.int .i64 y0, .int .i64 y1] 64)).alloc (.cells #[] 75)).cell? ⟨wr.heap.size, 0, none⟩ = some (.int .i64 y0) ∧ ((wr.alloc (.cells #[.int .i64 y0, .int .i64 y1] 64)).alloc (.cells #[] 75)).cell? ⟨wr.heap.size, 1, none⟩ = some (.int .i64 y1) :=
          ⟨((below_alloc (Below.refl (wr.alloc (.cells #[.int .i64 y0, .int .i64 y1] 64)).heap.size _) _).cell (p := ⟨wr.heap.size, 0, none⟩) (by simp)).trans (by go_simp), ((below_alloc (Below.refl (wr.alloc (.cells #[.int .i64 y0, .int .i64 y1] 64)).heap.size _) _).cell (p := ⟨wr.heap.size, 1, none⟩) (by simp)).trans (by go_simp)⟩
        generalize ((wr.alloc (.cells #[.int .i64 y0, .int .i64 y1] 64)).alloc (.cells #[] 75)) = W8 at HS8 hz8 hb8 hc8 ⊢
        have HOW := HS8
        have HB8 := Aside0.mk (⟨below_then BW.out.1 (by have := BW.out.2; omega) hb8, by have := BW.out.2; omega⟩ : Below (w.heap.size + 1) wb W8 ∧ w.heap.size + 4 ≤ W8.heap.size)
        have C8 := Aside0.mk (fun W (hb : Below W8.heap.size W8 W) =>
          (show W.cell? ⟨wr.heap.size, 0, none⟩ = some (.int .i64 y0) ∧ W.cell? ⟨wr.heap.size, 1, none⟩ = some (.int .i64 y1) ∧ W.cell? ⟨w.heap.size, 0, none⟩ = some (.int .i64 a0_0) ∧ W.cell? ⟨w.heap.size, 1, none⟩ = some (.slice (some ad) l0_1.length c0_1) from by
            obtain ⟨_, _, b2, b3⟩ := CW.out _ (below_then HB8.out.1 (by have := HB8.out.2; omega) hb)
            exact ⟨(hb.cell (p := ⟨wr.heap.size, 0, none⟩) (by simp [hz8])).trans hc8.1, (hb.cell (p := ⟨wr.heap.size, 1, none⟩) (by simp [hz8])).trans hc8.2, b2, b3⟩))
        have HFIN := Aside0.mk (fun W (hb : Below W8.heap.size W8 W) => (show Below w.heap.size w W from by
          have h := below_then HB8.out.1 (by have := HB8.out.2; omega) hb
          rw [HWB.out] at h
          exact below_unbox h))
        have HLEN : Aside0 (l0_1.length ≤ 1000) := ⟨by have := of_decide_eq_false n2; omega⟩
        clear hz8 hb8 hc8 g0 g1 g2 g3 HS8
        obtain ⟨f0, f1, f2, f3⟩ := C8.out _ (Below.refl _ _)
        have hw1 : wrap64 (kk + 1) = kk + 1 := by have := HL.out; have := of_eq_true q0; unfold wrap64; omega
        have BR : Aside0 (Below W8.heap.size W8 W8) := ⟨Below.refl _ _⟩
        cases tw with
        | true =>
          have HN : Aside0 (r = false) := ⟨by rw [← H.out]; exact right_no (i := kk.toNat) (by have := HL.out; have := HK.out; omega) (by rw [HO.out]; simp)⟩
          go_quiet (fail)
          go_wp2
          go_ret
          exact ⟨by rw [HN.out]; rfl, HFIN.out _ (pw_below_drewN BR.out _)⟩
        | false =>
          cases c1 : decide (y1 ≤ a0_0) with
          | true =>
            have HN : Aside0 (r = false) := ⟨by rw [← H.out]; exact right_no (i := kk.toNat) (by have := HL.out; have := HK.out; omega) (by rw [HO.out]; simp [c1])⟩
            go_quiet (fail)
            go_wp2
            go_ret
            exact ⟨by rw [HN.out]; rfl, HFIN.out _ (pw_below_drewN BR.out _)⟩
          | false =>
            cases c2 : decide (1099511627776 < y1) with
            | true =>
              have HN : Aside0 (r = false) := ⟨by rw [← H.out]; exact right_no (i := kk.toNat) (by have := HL.out; have := HK.out; omega) (by rw [HO.out]; simp [c2])⟩
              go_quiet (fail)
              go_wp2
              go_ret
              exact ⟨by rw [HN.out]; rfl, HFIN.out _ (pw_below_drewN BR.out _)⟩
            | false =>
              rw [c1, c2] at HO
              by_cases hk0 : kk = 0
              · have q3 : decide (0 < kk) = false := decide_eq_false (by omega)
                have HP : Aside0 (okAt a0_0 l0_1 kk.toNat = true) := ⟨by rw [HO.out, show decide (0 < kk.toNat) = false from decide_eq_false (by omega)]; rfl⟩
                have HK0 := Aside0.mk hk0
                clear hk0
                go_quiet (fail)
                go_wp2_with (at_mapUpdate; refine wpList_mapUpdate_own _ rfl _ _ _ 74 rfl 3 75 (Go.Maps.int_keyed Try.underlying3) Try.underlying74 unitElem (w.heap.size + 1) kk.toNat _ rfl (HOW.out.kept (grown_of_below (pw_below_drewN (Below.refl _ _) _) none) (by simp)) (by have := HK.out; have := HL.out; have := HLEN.out; unfold maxLen; omega) _ _ _ rfl rfl HKEY.out _ [] unitElem_mk ?_; intro w9 hown9 hgrow9; have HO9 := Aside0.mk hown9; have HG9 := Aside0.mk hgrow9; clear hown9 hgrow9)
                go_roundg (l0_1.length - (kk.toNat + 1))
                case measure => have := HK.out; have := HL.out; omega
                case rel =>
                  refine ⟨kk + 1, by first | rfl | (simp [hw1]; done), ⟨by have := HK.out; omega, by have := HL.out; omega, by have := HK.out; omega⟩, ⟨?_, ?_⟩, ⟨?_⟩, ⟨fun j hj => ?_⟩⟩
                  · exact (below_then HB8.out.1 (by have := HB8.out.2; omega) (pw_below_drewN BR.out _)).grown HG9.out (Nat.le_trans (by have := HB8.out.2; omega) (Below.size (pw_below_drewN BR.out _))) (fun j hj => by cases hj; exact Nat.le_refl _)
                  · exact Nat.le_trans (by have := HB8.out.2; omega) (Nat.le_trans (Below.size (pw_below_drewN BR.out _)) HG9.out.size)
                  · have := HO9.out
                    rw [show (kk + 1).toNat = kk.toNat + 1 from by have := HK.out; omega, HTK.out, idsD_snoc]
                    exact this
                  · by_cases e : j = kk.toNat
                    · subst e; exact HP.out
                    · exact AF.out j (by have := HK.out; omega)
              · have q3 : decide (0 < kk) = true := decide_eq_true (by have := of_eq_true q0; omega)
                have hk1 : 0 < kk := of_decide_eq_true q3
                obtain ⟨h, hh⟩ : ∃ h, h = kk - 1 := ⟨_, rfl⟩
                have hw2 : wrap64 (kk - 1) = h := by have := HL.out; rw [hh]; unfold wrap64; omega
                have hw3 : IntKind.i64.wrap (kk - 1) = h := by have h2 := hw2; unfold wrap64 at h2; rw [IntKind.wrap_i64]; exact h2
                have q4 : (0 ≤ h) = True := eq_true (by omega)
                have q5 : (h < (l0_1.length : Int)) = True := eq_true (by have := HL.out; omega)
                obtain ⟨ad', e0, h0, h1⟩ := at_T64 HR.out h (by omega) (by have := HL.out; omega)
                cases e0
                have hp : l0_1.getD (kk.toNat - 1) z64 = rd_T64 l0_1 h := by unfold rd_T64; congr 1; omega
                rw [hp, show decide (0 < kk.toNat) = true from decide_eq_true (by omega)] at HO
                clear hp hh
                generalize rd_T64 l0_1 h = p at h0 h1 HO
                have k0 := World.block_lt_of_cell? w _ h0
                have k1 := World.block_lt_of_cell? w _ h1
                obtain ⟨p0, p1⟩ := p
                have CP := Aside0.mk (fun W (hb : Below W8.heap.size W8 W) =>
                  (show (W.cell? ⟨wr.heap.size, 0, none⟩ = some (.int .i64 y0) ∧ W.cell? ⟨wr.heap.size, 1, none⟩ = some (.int .i64 y1) ∧ W.cell? ⟨w.heap.size, 0, none⟩ = some (.int .i64 a0_0) ∧ W.cell? ⟨w.heap.size, 1, none⟩ = some (.slice (some ad) l0_1.length c0_1)) ∧ W.cell? (ad.add (h.toNat * 2)) = some (.int .i64 p0) ∧ W.cell? ⟨(ad.add (h.toNat * 2)).block, (ad.add (h.toNat * 2)).off + 1, none⟩ = some (.int .i64 p1) from by
                    have hw := (HX (.cells #[.int .i64 a0_0, .slice (some ad) l0_1.length c0_1] 28)).out
                    have hb' := below_then HB8.out.1 (by have := HB8.out.2; omega) hb
                    rw [HWB.out] at hb'
                    exact ⟨C8.out W hb, (hb'.cell (Nat.lt_succ_of_lt k0)).trans ((hw.cell k0).trans h0), (hb'.cell (Nat.lt_succ_of_lt k1)).trans ((hw.cell k1).trans h1)⟩))
                clear h0 h1 k0 k1 hk0 hk1
                obtain ⟨_, f4, f5⟩ := CP.out _ (Below.refl _ _)
                have HQ := fun W => Aside0.mk (order_calls ⟨p0, p1⟩ ⟨y0, y1⟩ W)
                cases hc : decide (0 ≤ ordI ⟨p0, p1⟩ ⟨y0, y1⟩) with
                | true =>
                  have HN : Aside0 (r = false) := ⟨by rw [← H.out]; exact right_no (i := kk.toNat) (by have := HL.out; have := HK.out; omega) (by rw [HO.out]; simp [hc])⟩
                  go_region_held3 (fun w' => ((w'.cell? ⟨wr.heap.size, 0, none⟩ = some (.int .i64 y0) ∧ w'.cell? ⟨wr.heap.size, 1, none⟩ = some (.int .i64 y1) ∧ w'.cell? ⟨w.heap.size, 0, none⟩ = some (.int .i64 a0_0) ∧ w'.cell? ⟨w.heap.size, 1, none⟩ = some (.slice (some ad) l0_1.length c0_1)) ∧ w'.cell? (ad.add (h.toNat * 2)) = some (.int .i64 p0) ∧ w'.cell? ⟨(ad.add (h.toNat * 2)).block, (ad.add (h.toNat * 2)).off + 1, none⟩ = some (.int .i64 p1)) ∧ Below W8.heap.size W8 w')
                    (first | exact ⟨CP.out _ (below_drew BR.out), below_drew BR.out⟩ | exact ⟨CP.out _ (bt (below_drew BR.out) hb), bt (below_drew BR.out) hb⟩)
                    (first | (go_at_call 27; refine (HQ _).out.mono ?_; rintro e w'' ⟨rfl, hb⟩))
                  go_wp2
                  go_ret
                  exact ⟨by rw [HN.out]; rfl, HFIN.out _ (bt (below_drew BR.out) hb)⟩
                | false =>
                  have HP : Aside0 (okAt a0_0 l0_1 kk.toNat = true) := ⟨by rw [HO.out]; simp [hc]⟩
                  go_region_held3 (fun w' => ((w'.cell? ⟨wr.heap.size, 0, none⟩ = some (.int .i64 y0) ∧ w'.cell? ⟨wr.heap.size, 1, none⟩ = some (.int .i64 y1) ∧ w'.cell? ⟨w.heap.size, 0, none⟩ = some (.int .i64 a0_0) ∧ w'.cell? ⟨w.heap.size, 1, none⟩ = some (.slice (some ad) l0_1.length c0_1)) ∧ w'.cell? (ad.add (h.toNat * 2)) = some (.int .i64 p0) ∧ w'.cell? ⟨(ad.add (h.toNat * 2)).block, (ad.add (h.toNat * 2)).off + 1, none⟩ = some (.int .i64 p1)) ∧ Below W8.heap.size W8 w')
                    (first | exact ⟨CP.out _ (below_drew BR.out), below_drew BR.out⟩ | exact ⟨CP.out _ (bt (below_drew BR.out) hb), bt (below_drew BR.out) hb⟩)
                    (first | (go_at_call 27; refine (HQ _).out.mono ?_; rintro e w'' ⟨rfl, hb⟩))
                  have HBB := Aside0.mk (bt (below_drew BR.out) hb)
                  clear hb f0 f1 f2 f3 f4 f5
                  obtain ⟨f0, f1, f2, f3⟩ := C8.out _ HBB.out
                  go_wp2_with (at_mapUpdate; refine wpList_mapUpdate_own _ rfl _ _ _ 74 rfl 3 75 (Go.Maps.int_keyed Try.underlying3) Try.underlying74 unitElem (w.heap.size + 1) kk.toNat _ rfl (HOW.out.kept (grown_of_below HBB.out none) (by simp)) (by have := HK.out; have := HL.out; have := HLEN.out; unfold maxLen; omega) _ _ _ rfl rfl HKEY.out _ [] unitElem_mk ?_; intro w9 hown9 hgrow9; have HO9 := Aside0.mk hown9; have HG9 := Aside0.mk hgrow9; clear hown9 hgrow9)
                  go_roundg (l0_1.length - (kk.toNat + 1))
                  case measure => have := HK.out; have := HL.out; omega
                  case rel =>
                    refine ⟨kk + 1, by first | rfl | (simp [hw1]; done), ⟨by have := HK.out; omega, by have := HL.out; omega, by have := HK.out; omega⟩, ⟨?_, ?_⟩, ⟨?_⟩, ⟨fun j hj => ?_⟩⟩
                    · exact (below_then HB8.out.1 (by have := HB8.out.2; omega) HBB.out).grown HG9.out (Nat.le_trans (by have := HB8.out.2; omega) (Below.size HBB.out)) (fun j hj => by cases hj; exact Nat.le_refl _)
                    · exact Nat.le_trans (by have := HB8.out.2; omega) (Nat.le_trans (Below.size HBB.out) HG9.out.size)
                    · have := HO9.out
                      rw [show (kk + 1).toNat = kk.toNat + 1 from by have := HK.out; omega, HTK.out, idsD_snoc]
                      exact this
                    · by_cases e : j = kk.toNat
                      · subst e; exact HP.out
                      · exact AF.out j (by have := HK.out; omega)
      · have cb : decide (kk < (l0_1.length : Int)) = false := decide_eq_false hlt
        have HL := Aside0.mk hlt
        clear hlt p0
        go_wp2
        go_ret
        refine ⟨?_, ?_⟩
        · rw [← H.out, right_yes HN.out (fun i hi => AF.out i (by have := HL.out; have := HK.out; omega))]
          rfl
        · have := BW.out.1
          rw [HWB.out] at this
          exact below_unbox this
end Go.Proofs.Ytngjohckkgmggaa.H
