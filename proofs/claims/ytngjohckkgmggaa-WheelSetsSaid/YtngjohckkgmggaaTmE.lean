/- wheel.Stop. -/

import Derived.Test.YtngjohckkgmggaaTmD
namespace Go.Proofs.Ytngjohckkgmggaa.H
open Go.RowKit Go.Proofs.YtngjohckkgmggaaW.PrintWords Go.Proofs.YtngjohckkgmggaaW.PrintLast Go.Proofs.Ytngjohckkgmggaa.P
set_option linter.unusedVariables false
set_option linter.unusedSimpArgs false

/-- slices.Delete of one element of an own row. -/
theorem delete_calls (l : List S64) (v : Value) (i : Nat) (w0 w : World) (hB : Below w0.heap.size w0 w) (HO : Kd.R k64 64 w w0.heap.size (fun _ => True) v l) (hi : i < l.length) (hl : l.length ≤ 8796093022208) :
    Calls Try.prog 31 #[v, .int .i64 (i : Int), .int .i64 ((i : Int) + 1)] w fun e w' => ∃ v1, e = .returned v1 ∧ Kd.R k64 64 w' w0.heap.size (fun _ => True) v1 (delH l i) ∧ Below w0.heap.size w0 w' := by
  rcases own_row flatK HO with ⟨_, rfl⟩ | ⟨G, cap, f, rfl, hG, hcap, hmax, hrow, hf⟩
  · simp at hi
  · exact delete_at l G cap i f w0 w hB hG hi hcap hmax hrow (fun a ha => atH_of hf a ha) hl

theorem both_set {B : Nat} {a w : World} (h : Below B a w) (p : Addr) (u : Value) : Below B (a.setCell p u) (w.setCell p u) := by
  refine ⟨h.os, h.tape, h.output, by simpa [World.setCell] using h.size, fun k hk => ?_⟩
  simp only [World.setCell, Array.getElem?_modify]
  rw [h.block k hk]

def cell2 (a b : Value) : Nat → Value := fun j => if j = 0 then a else b

/-- The boxes of a call: a wheel's (at the first new block), and the result's. -/
structure Fr (w W : World) (a b c d : Value) : Prop where
  b0 : Row W w.heap.size 28 2 (cell2 a b)
  b1 : Row W (w.heap.size + 1) 28 2 (cell2 c d)
  le : Below w.heap.size w W
  sz : w.heap.size + 2 ≤ W.heap.size

theorem row_two (W : World) (t : TypeId) (a b : Value) : Row (W.alloc (.cells #[a, b] t)) W.heap.size t 2 (cell2 a b) := by
  refine ⟨#[a, b], (MapKept.heap_alloc W _).1, rfl, fun j hj => ?_⟩
  match j, hj with
  | 0, _ => rfl
  | 1, _ => rfl
theorem Fr.start (w : World) (a b c d : Value) : Fr w ((w.alloc (.cells #[a, b] 28)).alloc (.cells #[c, d] 28)) a b c d := by
  refine ⟨(row_two w _ a b).alloc _, ?_, below_alloc (below_alloc (Below.refl _ _) _) _, by simp⟩
  have := row_two (w.alloc (.cells #[a, b] 28)) 28 c d
  rwa [show (w.alloc (.cells #[a, b] 28)).heap.size = w.heap.size + 1 from by simp] at this
theorem Fr.step {w W W' : World} {a b c d : Value} (h : Fr w W a b c d) (hb : Below W.heap.size W W') : Fr w W' a b c d :=
  ⟨h.b0.below hb, h.b1.below hb, below_then h.le (by have := h.sz; omega) hb, Nat.le_trans h.sz hb.size⟩
theorem cell2_set1 (a b v : Value) : ∀ j, j < 2 → upd (cell2 a b) 1 v j = cell2 a v j := fun j hj => by
  match j, hj with
  | 0, _ => rfl
  | 1, _ => rfl
theorem cell2_set0 (a b v : Value) : ∀ j, j < 2 → upd (cell2 a b) 0 v j = cell2 v b j := fun j hj => by
  match j, hj with
  | 0, _ => rfl
  | 1, _ => rfl
theorem Fr.set1 {w W : World} {a b c d : Value} (h : Fr w W a b c d) (v : Value) : Fr w (W.setCell ⟨w.heap.size, 1, none⟩ v) a v c d :=
  ⟨(h.b0.set (by decide) v).congr (cell2_set1 a b v), h.b1.far (by simp) v, h.le.setCell (Nat.le_refl _) v, by have := h.sz; simpa using this⟩
theorem Fr.set0 {w W : World} {a b c d : Value} (h : Fr w W a b c d) (v : Value) : Fr w (W.setCell ⟨w.heap.size, 0, none⟩ v) v b c d :=
  ⟨(h.b0.set (by decide) v).congr (cell2_set0 a b v), h.b1.far (by simp) v, h.le.setCell (Nat.le_refl _) v, by have := h.sz; simpa using this⟩
theorem Fr.facts {w W : World} {a b c d : Value} (h : Fr w W a b c d) : W.cell? ⟨w.heap.size, 0, none⟩ = some a ∧ W.cell? ⟨w.heap.size, 1, none⟩ = some b ∧ W.cell? ⟨w.heap.size + 1, 0, none⟩ = some c ∧ W.cell? ⟨w.heap.size + 1, 1, none⟩ = some d ∧
    W.frozen? ⟨w.heap.size, 0, none⟩ = false ∧ W.frozen? ⟨w.heap.size, 1, none⟩ = false ∧ W.frozen? ⟨w.heap.size + 1, 0, none⟩ = false ∧ W.frozen? ⟨w.heap.size + 1, 1, none⟩ = false :=
  ⟨h.b0.cell (by decide), h.b0.cell (by decide), h.b1.cell (by decide), h.b1.cell (by decide), h.b0.free _, h.b0.free _, h.b1.free _, h.b1.free _⟩

def stopF (now : Int) (l : List S64) (id : Int) : Option (Int × List S64 × Int) :=
  if wfT l = true ∧ l.length ≤ 8796093022208 then some (if right now l = true then (if idx (isId id) l 0 = -1 then (now, l, 7) else (now, delH l (idx (isId id) l 0).toNat, 0)) else (now, l, 2)) else none

theorem idx_facts (p : S64 → Bool) (l : List S64) : idx p l 0 = -1 ∨ ∃ k : Nat, k < l.length ∧ idx p l 0 = k ∧ p (l.getD k z64) = true ∧ ∀ j, j < k → p (l.getD j z64) = false := by
  suffices h : ∀ (l : List S64) (i : Int), (idx p l i = -1 ∧ ∀ x ∈ l, p x = false) ∨ ∃ k : Nat, k < l.length ∧ idx p l i = i + k ∧ p (l.getD k z64) = true ∧ ∀ j, j < k → p (l.getD j z64) = false by
    rcases h l 0 with ⟨h, _⟩ | ⟨k, h1, h2, h3⟩
    · exact .inl h
    · exact .inr ⟨k, h1, by omega, h3⟩
  intro l
  induction l with
  | nil => intro i; exact .inl ⟨rfl, by simp⟩
  | cons x l ih =>
    intro i
    cases hx : p x with
    | true => exact .inr ⟨0, by simp, by rw [idx_hit p (x :: l) 0 i (by simp) (by simpa using hx) (fun j hj => absurd hj (Nat.not_lt_zero _))], by simpa using hx, fun j hj => absurd hj (Nat.not_lt_zero _)⟩
    | false =>
      by_cases h : ∀ y ∈ l, p y = false
      · have ha : ∀ y ∈ x :: l, p y = false := fun y hy => by
          rcases List.mem_cons.1 hy with rfl | hy
          · exact hx
          · exact h y hy
        exact .inl ⟨idx_none p _ _ ha, ha⟩
      · rcases ih (i + 1) with ⟨_, h2⟩ | ⟨k, h1, h2, h3, h4⟩
        · exact absurd h2 h
        · have hlow : ∀ j, j < k + 1 → p ((x :: l).getD j z64) = false := fun j hj => by
            cases j with
            | zero => simpa using hx
            | succ j => simpa using h4 j (by omega)
          exact .inr ⟨k + 1, by simpa using h1, by rw [idx_hit p (x :: l) (k + 1) i (by simpa using h1) (by simpa using h3) hlow], by simpa using h3, hlow⟩

theorem far_R {w1 : World} {base : Nat} {v : Value} {l : List S64} (hR : Kd.R k64 64 w1 base (fun _ => True) v l) {p : Addr} (hp : p.block < base) (u : Value) : Kd.R k64 64 (w1.setCell p u) base (fun _ => True) v l :=
  Kd.R_mono (Kd.R_far (Kd.R_bound hR) (fun k hk => by have := hk.2.1; omega) u) (fun _ _ => trivial)

/-- A box has got a row of its own call's. -/
theorem after_clone {w Wa w1 : World} {a b c d v : Value} {l : List S64} (F : Fr w Wa a b c d) (hR : Kd.R k64 64 w1 Wa.heap.size (fun _ => True) v l) (hb : Below Wa.heap.size Wa w1) :
    ∃ w0, Fr w w0 a v c d ∧ Below w0.heap.size w0 (w1.setCell ⟨w.heap.size, 1, none⟩ v) ∧ Kd.R k64 64 (w1.setCell ⟨w.heap.size, 1, none⟩ v) w0.heap.size (fun _ => True) v l := by
  have hs : (Wa.setCell ⟨w.heap.size, 1, none⟩ v).heap.size = Wa.heap.size := by simp
  refine ⟨Wa.setCell ⟨w.heap.size, 1, none⟩ v, F.set1 v, ?_, ?_⟩
  · rw [hs]; exact both_set hb _ _
  · rw [hs]; exact far_R hR (by have := F.sz; show w.heap.size < _; omega) v

/-- What the boxes' call goes on from: the boxes, and the row. -/
structure St (w w0 W : World) (l : List S64) (a v c d : Value) : Prop where
  fr : Fr w w0 a v c d
  le : Below w0.heap.size w0 W
  row : Kd.R k64 64 W w0.heap.size (fun _ => True) v l
theorem St.step {w w0 W W' : World} {l : List S64} {a v c d : Value} (h : St w w0 W l a v c d) (hb : Below W.heap.size W W') : St w w0 W' l a v c d :=
  ⟨h.fr, below_then h.le h.le.size hb, Kd.R_below h.row hb⟩
theorem St.now {w w0 W : World} {l : List S64} {a v c d : Value} (h : St w w0 W l a v c d) : Fr w W a v c d := h.fr.step h.le
theorem St.size {w w0 W : World} {l : List S64} {a v c d : Value} (h : St w w0 W l a v c d) : w.heap.size + 2 ≤ w0.heap.size := h.fr.sz
/-- What is handed back: the result's box is written, in a world that the row has seen. -/
theorem fin_res {w w0 W : World} {l : List S64} {v : Value} (hs : w.heap.size + 2 ≤ w0.heap.size) (hw : Below w.heap.size w W) (hR : Kd.R k64 64 W w0.heap.size (fun _ => True) v l) (x y : Value) :
    Kd.R k64 64 ((W.setCell ⟨w.heap.size + 1, 0, none⟩ x).setCell ⟨w.heap.size + 1, 1, none⟩ y) w.heap.size (fun _ => True) v l ∧ Below w.heap.size w ((W.setCell ⟨w.heap.size + 1, 0, none⟩ x).setCell ⟨w.heap.size + 1, 1, none⟩ y) :=
  ⟨Kd.R_lower (far_R (far_R hR (show w.heap.size + 1 < _ by omega) x) (show w.heap.size + 1 < _ by omega) y) (by omega), (hw.setCell (Nat.le_succ _) x).setCell (Nat.le_succ _) y⟩

theorem row_heap {W : World} {g : Nat} {t : TypeId} {x y : Value} (h : Row W g t 2 (cell2 x y)) : W.heap[g]? = some (.cells #[x, y] t (0, 0)) := by
  obtain ⟨cur, hg, hs, hc⟩ := h
  rw [hg]
  have h0 := hc 0 (by decide)
  have h1 := hc 1 (by decide)
  congr 2
  apply Array.ext
  · simpa using hs
  · intro i h2 h3
    rw [hs] at h2
    match i, h2 with
    | 0, _ => have := Array.getElem?_eq_getElem (xs := cur) (i := 0) (by omega); rw [this] at h0; injection h0
    | 1, _ => have := Array.getElem?_eq_getElem (xs := cur) (i := 1) (by omega); rw [this] at h1; injection h1
theorem Fr.res {w W : World} {a b c d : Value} (h : Fr w W a b c d) (x y : Value) : ((W.setCell ⟨w.heap.size + 1, 0, none⟩ x).setCell ⟨w.heap.size + 1, 1, none⟩ y).heap[w.heap.size + 1]? = some (.cells #[x, y] 28 (0, 0)) :=
  row_heap ((((h.b1.set (k := 0) (by decide) x).congr (cell2_set0 c d x)).set (k := 1) (by decide) y).congr (cell2_set1 x d y))

set_option maxRecDepth 100000 in
set_option maxHeartbeats 4000000 in
theorem stop_calls (a0_0 : Int) (A0_1 : Option Addr) (c0_1 : Nat) (l0_1 : List (S64)) (a1 : Int) (r1 : Int) (r2 : List (S64)) (r3 : Int) (w : World) (hr0_1 : Kd.C k64 w A0_1 l0_1.length l0_1) (hc0_1 : l0_1.length ≤ c0_1) (h : stopF a0_0 l0_1 a1 = some (r1, r2, r3)) :
    Calls Try.prog 14 #[.agg #[.int .i64 a0_0, .slice A0_1 l0_1.length c0_1], .int .i64 a1] w fun e w' => ∃ v1_ : Value, e = .returned (.tuple #[.agg #[.int .i64 r1, v1_], .int .i64 r3]) ∧ Kd.R k64 64 w' w.heap.size (fun _ => True) v1_ r2 ∧ Below w.heap.size w w' := by
  obtain ⟨hw, hl⟩ : wfT l0_1 = true ∧ l0_1.length ≤ 8796093022208 := by
    unfold stopF at h
    split at h
    · assumption
    · cases h
  unfold stopF at h
  rw [if_pos ⟨hw, hl⟩] at h
  have HL := Aside0.mk hl
  have FS := Fr.start w (.int .i64 a0_0) (.slice A0_1 l0_1.length c0_1) (.int .i64 0) (.slice none 0 0)
  have HCl := Aside0.mk (clone_calls A0_1 c0_1 l0_1 ((w.alloc (.cells #[.int .i64 a0_0, .slice A0_1 l0_1.length c0_1] 28)).alloc (.cells #[.int .i64 0, .slice none 0 0] 28)) (Kd.C_below hr0_1 FS.le) hl)
  have HFS := Aside0.mk FS
  have HRt := Aside0.mk (fun A c W hr hc => right_calls a0_0 A c l0_1 (right a0_0 l0_1) W hr hc (by unfold rightF; rw [if_pos hw]))
  have HFi := Aside0.mk (fun A c W hr => find_calls a0_0 a1 A c l0_1 W hr)
  clear FS hr0_1 hc0_1 hw
  have b3 : (l0_1.length : Int) ≤ 8796093022208 := by omega
  cases hR : right a0_0 l0_1 with
  | false =>
    rw [hR] at HRt
    rw [hR, if_neg (by simp)] at h
    injection h with h
    injection h with h1 h
    injection h with h2 h3
    subst h1 h2 h3
    clear hR hl
    go_enter Try.func14, Try.ntmps14
    go_wp2_with (first | (go_at_call 24; refine HCl.out.mono ?_; rintro e w1 ⟨v1, rfl, hR1, hb1⟩; obtain ⟨A1, c1, rfl⟩ := Kd.R_slice hR1; obtain ⟨w0, f0, f1, f2⟩ := after_clone HFS.out hR1 hb1; have S1 := Aside0.mk (St.mk f0 f1 f2); obtain ⟨x0, x1, x2, x3, x4, x5, x6, x7⟩ := (HFS.out.step hb1).facts; clear hR1 hb1 f0 f1 f2) | (go_at_call 20; with_reducible refine (HRt.out A1 c1 _ (Kd.R_reads' S1.out.row).2.2 (Kd.R_reads' S1.out.row).2.1).mono ?_; rintro e w2 ⟨rfl, hb2⟩; have S2 := Aside0.mk (S1.out.step hb2); clear x0 x1 x2 x3 x4 x5 x6 x7; obtain ⟨x0, x1, x2, x3, x4, x5, x6, x7⟩ := S2.out.now.facts; clear hb2))
    (try simp only [Exit.inBlock, Exit.then])
    refine bodyPost_ret (results_ct rfl _ _ (w.heap.size + 1) 28 #[_, _] (0, 0) _ rfl (Fr.res (S2.out.now) _ _) Try.underlying28 rfl (by kernel_rfl)) rfl ?_
    exact ⟨_, rfl, fin_res S2.out.size S2.out.now.le S2.out.row _ _⟩
  | true =>
    rw [hR] at HRt
    rw [hR, if_pos rfl] at h
    rcases idx_facts (isId a1) l0_1 with hi | ⟨k, hk, hi, _⟩
    · rw [hi] at HFi
      rw [if_pos hi] at h
      injection h with h
      injection h with h1 h
      injection h with h2 h3
      subst h1 h2 h3
      clear hR hl hi
      go_enter Try.func14, Try.ntmps14
      go_wp2_with (first | (go_at_call 24; refine HCl.out.mono ?_; rintro e w1 ⟨v1, rfl, hR1, hb1⟩; obtain ⟨A1, c1, rfl⟩ := Kd.R_slice hR1; obtain ⟨w0, f0, f1, f2⟩ := after_clone HFS.out hR1 hb1; have S1 := Aside0.mk (St.mk f0 f1 f2); obtain ⟨x0, x1, x2, x3, x4, x5, x6, x7⟩ := (HFS.out.step hb1).facts; clear hR1 hb1 f0 f1 f2) | (go_at_call 20; with_reducible refine (HRt.out A1 c1 _ (Kd.R_reads' S1.out.row).2.2 (Kd.R_reads' S1.out.row).2.1).mono ?_; rintro e w2 ⟨rfl, hb2⟩; have S2 := Aside0.mk (S1.out.step hb2); clear x0 x1 x2 x3 x4 x5 x6 x7; obtain ⟨x0, x1, x2, x3, x4, x5, x6, x7⟩ := S2.out.now.facts; clear hb2) | (go_at_call 25; with_reducible refine (HFi.out A1 c1 _ (Kd.R_reads' S2.out.row).2.2).mono ?_; rintro e w3 ⟨rfl, hb3⟩; have S3 := Aside0.mk (S2.out.step hb3); clear x0 x1 x2 x3 x4 x5 x6 x7; obtain ⟨x0, x1, x2, x3, x4, x5, x6, x7⟩ := S3.out.now.facts; clear hb3))
      (try simp only [Exit.inBlock, Exit.then])
      refine bodyPost_ret (results_ct rfl _ _ (w.heap.size + 1) 28 #[_, _] (0, 0) _ rfl (Fr.res (S3.out.now) _ _) Try.underlying28 rfl (by kernel_rfl)) rfl ?_
      exact ⟨_, rfl, fin_res S3.out.size S3.out.now.le S3.out.row _ _⟩
    · rw [hi] at HFi
      rw [if_neg (by rw [hi]; omega), hi] at h
      injection h with h
      injection h with h1 h
      injection h with h2 h3
      subst h1 h3
      rw [Int.toNat_natCast] at h2
      subst h2
      have HK := Aside0.mk hk
      have q0 : decide ((k : Int) < 0) = false := decide_eq_false (by omega)
      have hw1 : wrap64 ((k : Int) + 1) = (k : Int) + 1 := by unfold wrap64; omega
      clear hR hl hi hk
      go_enter Try.func14, Try.ntmps14
      go_wp2_with (first | (go_at_call 24; refine HCl.out.mono ?_; rintro e w1 ⟨v1, rfl, hR1, hb1⟩; obtain ⟨A1, c1, rfl⟩ := Kd.R_slice hR1; obtain ⟨w0, f0, f1, f2⟩ := after_clone HFS.out hR1 hb1; have S1 := Aside0.mk (St.mk f0 f1 f2); obtain ⟨x0, x1, x2, x3, x4, x5, x6, x7⟩ := (HFS.out.step hb1).facts; clear hR1 hb1 f0 f1 f2) | (go_at_call 20; with_reducible refine (HRt.out A1 c1 _ (Kd.R_reads' S1.out.row).2.2 (Kd.R_reads' S1.out.row).2.1).mono ?_; rintro e w2 ⟨rfl, hb2⟩; have S2 := Aside0.mk (S1.out.step hb2); clear x0 x1 x2 x3 x4 x5 x6 x7; obtain ⟨x0, x1, x2, x3, x4, x5, x6, x7⟩ := S2.out.now.facts; clear hb2) | (go_at_call 25; with_reducible refine (HFi.out A1 c1 _ (Kd.R_reads' S2.out.row).2.2).mono ?_; rintro e w3 ⟨rfl, hb3⟩; have S3 := Aside0.mk (S2.out.step hb3); clear x0 x1 x2 x3 x4 x5 x6 x7; obtain ⟨x0, x1, x2, x3, x4, x5, x6, x7⟩ := S3.out.now.facts; clear hb3) | (go_at_call 31; with_reducible refine (delete_calls l0_1 _ k w0 _ S3.out.le S3.out.row HK.out HL.out).mono ?_; rintro e w4 ⟨v4, rfl, hR4, hb4⟩; obtain ⟨A4, c4, rfl⟩ := Kd.R_slice hR4; have S4 := Aside0.mk (And.intro hR4 hb4); clear x0 x1 x2 x3 x4 x5 x6 x7; obtain ⟨x0, x1, x2, x3, x4, x5, x6, x7⟩ := (S3.out.fr.step hb4).facts; clear hR4 hb4))
      (try simp only [Exit.inBlock, Exit.then])
      refine bodyPost_ret (results_ct rfl _ _ (w.heap.size + 1) 28 #[_, _] (0, 0) _ rfl (Fr.res ((S3.out.fr.step S4.out.2).set1 _) _ _) Try.underlying28 rfl (by kernel_rfl)) rfl ?_
      exact ⟨_, rfl, fin_res S3.out.size ((S3.out.fr.step S4.out.2).set1 _).le (far_R S4.out.1 (show w.heap.size < _ by have := S3.out.size; omega) _) _ _⟩
end Go.Proofs.Ytngjohckkgmggaa.H
