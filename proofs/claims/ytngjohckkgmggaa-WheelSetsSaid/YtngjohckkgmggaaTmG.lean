/- wheel.Tick. -/

import Derived.Test.YtngjohckkgmggaaTmF
namespace Go.Proofs.Ytngjohckkgmggaa.H
open Go.RowKit Go.Proofs.YtngjohckkgmggaaW.PrintWords Go.Proofs.YtngjohckkgmggaaW.PrintLast Go.Proofs.Ytngjohckkgmggaa.P
set_option linter.unusedVariables false
set_option linter.unusedSimpArgs false

theorem infoI : (Try.prog.info? 3).map (fun i => (i.zero, i.size, i.bytes)) = some (some (.int .i64 0), 1, 8) := by kernel_rfl

/-- One number more, at the end of a row of the call's own. -/
theorem rung_append (W : World) (base : Nat) (rv : Value) (ids : List Int) (x : Int) (bl : Nat) (hcell : W.cell? ⟨bl, 0, none⟩ = some (.int .i64 x)) (hR : Kd.R (Kd.int .i64) 3 W base (fun _ => True) rv ids) (hl : ids.length + 1 ≤ 8796093022208) (hb : base ≤ W.heap.size) :
    ∃ v1 w1, (Builtin.append_ #[37, 37] 37 #[rv, .slice (some ⟨bl, 0, none⟩) 1 1]).run Try.prog W = .ok v1 w1 ∧ Kd.R (Kd.int .i64) 3 w1 base (fun _ => True) v1 (ids ++ [x]) ∧ W.grownBy w1 rv.ownBlock ∧
      (∀ k, rv.ownBlock = some k → base ≤ k) ∧ (∀ k, rv.ownBlock = some k → ∃ cells, W.heap[k]? = some (.cells cells 3 (0, 0))) := by
  obtain ⟨i0, hi, hzz⟩ := Option.map_eq_some_iff.1 infoI
  simp only [Prod.mk.injEq] at hzz
  obtain ⟨hz0, hz1, hz2⟩ := hzz
  obtain ⟨hok, inner, hown, hr⟩ := hR
  obtain ⟨v1, w1, hrun, h2, hg, _, hat⟩ := run_append_own_at (P := Try.prog) W base 37 37 3 i0 _ 1 8 Try.underlying37 hi hz0 hz1 hz2 rfl (by omega) rv ids.length inner hown ⟨bl, 0, none⟩ 1 1 [.int .i64 x] rfl
    (fun j u hj => by
      match j, hj with
      | 0, hj => rw [add_plain]; simp at hj; subst hj; exact hcell
      | j + 1, hj => simp at hj) (by intro u hu; simp at hu; subst hu; rfl) (by simp only [maxLen]; omega) (by omega) hb
  refine ⟨v1, w1, hrun, ⟨fun _ _ => trivial, inner ++ [.int .i64 x], by rw [List.length_append]; exact h2, ?_⟩, hg, own_base hown, own_typed hown⟩
  exact Reps.snoc (hr.imp_ (fun p c hp => hp)) rfl rfl

theorem Fr.grown {w W W1 : World} {a b c d : Value} {row : Option Nat} (h : Fr w W a b c d) (hg : W.grownBy W1 row) (hr : ∀ k, row = some k → w.heap.size + 2 ≤ k) : Fr w W1 a b c d :=
  ⟨h.b0.same (hg.block _ h.b0.lt (fun e => by have := hr _ e.symm; omega)), h.b1.same (hg.block _ h.b1.lt (fun e => by have := hr _ e.symm; omega)),
    h.le.grown hg h.le.size (fun k hk => by have := hr k hk; omega), Nat.le_trans h.sz hg.size⟩

theorem far_Q {w1 : World} {base : Nat} {v : Value} {l : List S64} (hQ : Kd.Q k64 64 w1 base (fun _ => True) v l) {p : Addr} (hp : p.block < base) (u : Value) : Kd.Q k64 64 (w1.setCell p u) base (fun _ => True) v l :=
  Kd.Q_mono (Kd.Q_far (Kd.Q_bound hQ) (fun k hk => by have := hk.2.1; omega) u) (fun _ _ => trivial)
theorem far_I {w1 : World} {base : Nat} {v : Value} {l : List Int} (hR : Kd.R (Kd.int .i64) 3 w1 base (fun _ => True) v l) {p : Addr} (hp : p.block < base) (u : Value) : Kd.R (Kd.int .i64) 3 (w1.setCell p u) base (fun _ => True) v l :=
  Kd.R_mono (Kd.R_far (Kd.R_bound hR) (fun k hk => by have := hk.2.1; omega) u) (fun _ _ => trivial)

/-- What stands before a round of Tick: k timers have rung. -/
structure Tk (w W : World) (nw : Int) (l : List S64) (k : Nat) (A : Option Addr) (c : Nat) (rv : Value) : Prop where
  fr : Fr w W (.int .i64 nw) (.slice A (l.length - k) c) (.int .i64 0) (.slice none 0 0)
  q : Kd.Q k64 64 W (w.heap.size + 2) (fun _ => True) (.slice A (l.length - k) c) (l.drop k)
  r : Kd.R (Kd.int .i64) 3 W (w.heap.size + 2) (fun _ => True) rv ((l.take k).map (fun t => t.f0))
theorem Tk.step {w W W' : World} {nw : Int} {l : List S64} {k : Nat} {A : Option Addr} {c : Nat} {rv : Value} (h : Tk w W nw l k A c rv) (hb : Below W.heap.size W W') : Tk w W' nw l k A c rv :=
  ⟨h.fr.step hb, Kd.Q_below h.q hb, Kd.R_below h.r hb⟩
/-- A round: one id more, one timer less. -/
theorem Tk.next {w W : World} {nw : Int} {l : List S64} {k : Nat} {A : Option Addr} {c : Nat} {rv : Value} (h : Tk w W nw l k A c rv) (hk : k < l.length) (hl : l.length ≤ 8796093022208) :
    ∃ v1 w1, (Builtin.append_ #[37, 37] 37 #[rv, .slice (some ⟨W.heap.size, 0, none⟩) 1 1]).run Try.prog (W.alloc (.cells #[.int .i64 (l.getD k z64).f0] 3)) = .ok v1 w1 ∧
      Fr w w1 (.int .i64 nw) (.slice A (l.length - k) c) (.int .i64 0) (.slice none 0 0) ∧
      Tk w (w1.setCell ⟨w.heap.size, 1, none⟩ (.slice (if c = 1 then A else A.map (·.add 2)) (l.length - k - 1) (c - 1))) nw l (k + 1) (if c = 1 then A else A.map (·.add 2)) (c - 1) v1 := by
  have h1 := h.step (below_alloc (Below.refl W.heap.size W) (.cells #[.int .i64 (l.getD k z64).f0] 3))
  obtain ⟨v1, w1, hrun, hR, hg, hbs, hty⟩ := rung_append (W.alloc (.cells #[.int .i64 (l.getD k z64).f0] 3)) (w.heap.size + 2) rv _ (l.getD k z64).f0 W.heap.size (by go_simp) h1.r (by simp; omega) h1.fr.sz
  have hF := h1.fr.grown hg hbs
  have hQ := Kd.Q_over' h1.q hty (by decide) hg
  have hD := Kd.Q_drop (k := 1) hQ (by simp; omega)
  rw [List.drop_drop] at hD
  refine ⟨v1, w1, hrun, hF, ?_, ?_, ?_⟩
  · have := hF.set1 (.slice (if c = 1 then A else A.map (·.add 2)) (l.length - k - 1) (c - 1))
    rwa [show l.length - k - 1 = l.length - (k + 1) from by omega] at this ⊢
  · have := far_Q hD (p := ⟨w.heap.size, 1, none⟩) (show w.heap.size < _ by omega) (.slice (if c = 1 then A else A.map (·.add 2)) (l.length - k - 1) (c - 1))
    rw [show l.length - k - 1 = l.length - (k + 1) from by omega] at this ⊢
    exact this
  · have := far_I hR (p := ⟨w.heap.size, 1, none⟩) (show w.heap.size < _ by omega) (.slice (if c = 1 then A else A.map (·.add 2)) (l.length - k - 1) (c - 1))
    rwa [show (l.take k).map (fun t => t.f0) ++ [(l.getD k z64).f0] = (l.take (k + 1)).map (fun t => t.f0) from by
      rw [List.take_add_one, List.getElem?_eq_getElem hk, List.map_append, List.getD_eq_getElem?_getD, List.getElem?_eq_getElem hk]; rfl] at this

def rings (nw : Int) (t : S64) : Bool := decide (t.f1 ≤ nw)
def rungP (nw : Int) (l : List S64) : List Int := (l.takeWhile (rings nw)).map (fun t => t.f0)
def leftP (nw : Int) (l : List S64) : List S64 := l.dropWhile (rings nw)
theorem rings_end {nw : Int} {l : List S64} {k : Nat} (hk : k ≤ l.length) (h : ∀ j, j < k → rings nw (l.getD j z64) = true) (he : k = l.length ∨ rings nw (l.getD k z64) = false) : rungP nw l = (l.take k).map (fun t => t.f0) ∧ leftP nw l = l.drop k := by
  unfold rungP leftP
  induction l generalizing k with
  | nil => simp
  | cons y l ih =>
    cases k with
    | zero =>
      rcases he with he | he
      · simp at he
      · have : rings nw y = false := by simpa using he
        simp [List.takeWhile, List.dropWhile, this]
    | succ k =>
      have hy : rings nw y = true := by simpa using h 0 (by omega)
      obtain ⟨h1, h2⟩ := ih (k := k) (by simpa using hk) (fun j hj => by simpa using h (j + 1) (by omega)) (by simpa using he)
      simp [List.takeWhile, List.dropWhile, hy, h1, h2]

def tickF (now : Int) (l : List S64) (by_ : Int) : Option (Int × List S64 × List Int × Int) :=
  if wfT l = true ∧ l.length + 1 ≤ 5864062014805 then
    (if right now l = true then
      (if decide (by_ < 0) = true then some (now, l, [], 2)
      else if decide (1099511627776 - now < by_) = true then some (now, l, [], 3)
      else some (now + by_, leftP (now + by_) l, rungP (now + by_) l, 0))
    else some (now, l, [], 2)) else none
end Go.Proofs.Ytngjohckkgmggaa.H
